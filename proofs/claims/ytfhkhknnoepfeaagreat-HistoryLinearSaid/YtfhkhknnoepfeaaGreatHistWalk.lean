/- A pick of an actor of the game, walked. (Written by wip/gen_histwalk.py.) -/
import Derived.Test.YtfhkhknnoepfeaaGreatHistGame
import Derived.Deep.RegionLaw
namespace Go.Proofs.YtfhkhknnoepfeaaGreat
open Go.RowKit
set_option linter.unusedVariables false

/-- What a pick leaves. -/
def PickPost (w0 : World) (B n c gb en m bc ck rb : Nat) (abs : Nat → Nat) (rv : Value) (g : Gm) (e : Ending) (w' : World) : Prop :=
  e = .returned (.tuple #[]) ∧ ∃ ps os avs opsV, GW w0 B n c gb en m bc ck rb abs ps os avs opsV rv g w'

/-- 'append(v, x)' of an operation in a region that draws its order, v the call's own. -/
theorem step_append_op (w : World) {ops : Array Oper} {o : Oper} {a : Act} {K : Act → World → Prop} {Q : Exit → Act → World → Prop} {E : Prop} (hw : Region.wanted o (yielded ops a.tmps) = true) (s x : Operand)
    (ho : o.op = .call { callee := .builtin .append, args := #[s, x], argTypes := #[30, 30] })
    (base : Nat) (v : Value) (l : List HOp) (hs : a.eval s = v) (hown : w.ownsRow base 36 6 v l.length (flatO l)) (ad : Addr) (y : HOp) (hx : a.eval x = .slice (some ad) 1 1) (hnews : ∀ j u, (flatO [y])[j]? = some u → w.cell? (ad.add j) = some u)
    (hlen : l.length ≤ 1000000) (hbase : base ≤ w.heap.size)
    (h : ∀ v' w', w'.ownsRow base 36 6 v' (l ++ [y]).length (flatO (l ++ [y])) → w.grownBy w' v.ownBlock → K (a.put o.dst v') w') :
    if Region.wanted o (yielded ops a.tmps) = true then Oper.wp Tryz.prog o a w K Q else E := by
  rw [if_pos hw]
  obtain ⟨i0, hi, hz0, hz1, hz2⟩ := info_parts infoOp
  exact wp_append_own w s x 30 ho base 36 i0 HOp.zero.v 6 48 Tryz.underlying30 hi hz0 hz1 hz2 rfl (by decide) v l.length (flatO l) hs hown ad 1 1 (flatO [y]) hx (by rw [flatO_len]; simp) hnews (flatO_one [y]) (by unfold maxLen; omega) (by omega) hbase
    (fun v' w' h4 h5 h6 => h v' w' (by rw [flatO_app, List.length_append]; exact h4) h5)
theorem cells_newO {w : World} {b : Nat} {T : TypeId} (y : HOp) (hb : b = w.heap.size) : ∀ j u, (flatO [y])[j]? = some u → (w.alloc (.cells #[.int .i64 y.kind, .int .i64 y.mach, .int .i64 y.frm, .int .i64 y.to, .int .i64 y.code, .int .i64 y.value] T)).cell? ((⟨b, 0, none⟩ : Addr).add j) = some u := by
  intro j u h
  subst hb
  have hn := blk_alloc_new w (.cells #[.int .i64 y.kind, .int .i64 y.mach, .int .i64 y.frm, .int .i64 y.to, .int .i64 y.code, .int .i64 y.value] T)
  rw [Go.WideShapes.add_plain, cell_blk hn, Nat.zero_add]
  have hj : j < 6 := by
    have := (List.getElem?_eq_some_iff.1 h).1
    simpa [flatO] using this
  rcases (show j = 0 ∨ j = 1 ∨ j = 2 ∨ j = 3 ∨ j = 4 ∨ j = 5 by omega) with e | e | e | e | e | e <;> subst e <;> simpa [flatO] using h

theorem owns_slice {w : World} {base : Nat} {T : TypeId} {sz : Nat} {v : Value} {n : Nat} {xs : List Value} (h : w.ownsRow base T sz v n xs) : ∃ ao cap, v = .slice ao n cap := by
  obtain ⟨hl, ⟨rfl, rfl⟩ | ⟨g, cap, cur, rfl, _⟩⟩ := h
  · exact ⟨none, 0, rfl⟩
  · exact ⟨_, cap, rfl⟩

section
variable {w0 : World} {B n c gb en m bc ck rb : Nat} {abs : Nat → Nat} {ps : Nat → Nat} {os : Nat → HOp} {avs : Nat → Value} {opsV rv : Value} {g : Gm} {w : World}

theorem updd {α : Type} (f : Nat → α) (a : Nat) (x y : α) : upd (upd f a x) a y = upd f a y := by
  funext b
  unfold upd
  by_cases h : b = a
  · rw [if_pos h, if_pos h]
  · rw [if_neg h, if_neg h, if_neg h]
theorem fin_more {a : Nat} {k : K} {o : HOp} (h : (stepK k g.mem).1.over = false) : ({ pick := g.pick + 1, ops := g.ops, mem := (stepK k g.mem).2, acs := upd g.acs a ⟨(g.acs a).acts, some ((stepK k g.mem).1, o)⟩ } : Gm) = g.stepped a k o := by
  unfold Gm.stepped; simp [h]
theorem fin_done {a : Nat} {k kk : K} {o fo : HOp} (hk : kk = (stepK k g.mem).1) (h : kk.over = true) (hf : fo = finO o g.pick kk.code kk.val) {g3 : Gm} (h3 : g3 = { pick := g.pick + 1, ops := g.ops, mem := (stepK k g.mem).2, acs := upd g.acs a ⟨(g.acs a).acts, some (kk, o)⟩ }) :
    ({ g3 with acs := upd g3.acs a ⟨(g3.acs a).acts, none⟩, ops := g3.ops ++ [fo] } : Gm) = g.stepped a k o := by
  subst h3 hf hk
  unfold Gm.stepped
  simp [h, updd, upd_same]

theorem grow_keep {w4 wA w5 : World} {len : Nat} {xs : List Value} (hO : w4.ownsRow B 36 6 opsV len xs) (hA : Only [] w4 wA) (hg : wA.grownBy w5 opsV.ownBlock) {b : Nat} {X : Obj} (h : w4.heap[b]? = some X) (hb : b < B) : w5.heap[b]? = some X := by
  have o5 : Only (opsV.ownBlock.toList) wA w5 := (Only.refl _ _).grown hg (fun q hq => .inl (by rw [hq]; simp))
  refine o5.keep (hA.keep h (by simp)) fun hm => ?_
  cases e : opsV.ownBlock with
  | none => rw [e] at hm; cases hm
  | some q => rw [e] at hm; simp at hm; have := (ops_blk hO q e).1; omega

theorem pick_end {a : Nat} {k : K} {op fo : HOp} {w4 wA w5 wf : World} {v' pv : Value} (h : GW w0 B n c gb en m bc ck rb abs ps os avs opsV rv g w) (d : GD w0 B n gb en m bc ck rb abs) (ha : a < n) (hk : (g.acs a).now = some (k, op))
    (h4 : Only [abs a] w w4) (A4 : w4.heap[abs a]? = some (actO a (avs a) pv fo)) (hA : Only [] w4 wA) (hg : wA.grownBy w5 opsV.ownBlock) (hown : w5.ownsRow B 36 6 v' (g.ops ++ [fo]).length (flatO (g.ops ++ [fo])))
    (hwf : wf = (w5.setCell ⟨gb, 7, none⟩ v').setCell ⟨abs a, 2, none⟩ .nilIface) :
    GW w0 B n c gb en m bc ck rb abs ps (upd os a fo) avs v' rv ({ g with acs := upd g.acs a ⟨(g.acs a).acts, none⟩, ops := g.ops ++ [fo] }) wf := by
  have d1 := d.g
  have d2 := d.hi
  have d3 := d.a a ha
  have ob := fun b hb => (ops_blk h.O b hb).1
  have o5 : Only (opsV.ownBlock.toList) wA w5 := (Only.refl _ _).grown hg (fun q hq => .inl (by rw [hq]; simp))
  have nob : ∀ b, b < B → b ∉ opsV.ownBlock.toList := fun b hb hm => by
    cases e : opsV.ownBlock with
    | none => rw [e] at hm; cases hm
    | some q => rw [e] at hm; simp at hm; have := ob q e; omega
  have o6 : Only [gb, abs a] w5 wf := by rw [hwf]; exact ((Only.refl _ _).setCell (by simp) _).setCell (by simp) _
  have oAll : Only (abs a :: gb :: opsV.ownBlock.toList) w wf :=
    (((h4.mono (by simp)).then0 hA).trans o5 (fun t ht => .inl (by simp [ht]))).trans o6 (fun t ht => .inl (by simp at ht ⊢; omega))
  have A5 := o5.keep (hA.keep A4 (by simp)) (nob _ (by omega))
  have G5 := o5.keep (hA.keep (h4.keep h.G (by simp; omega)) (by simp)) (nob _ (by omega))
  refine h.done d ha hk oAll (fun b hb => ?_) ?_ ?_ (owns_keepS hown o6 (fun b hb => by have := (ops_blk hown b hb).1; simp; omega))
  · simp at hb
    rcases hb with e | e | e
    · exact .inr (.inl e)
    · exact .inl e
    · exact .inr (.inr e)
  · rw [hwf]
    have e := blk_setCell (show (w5.setCell ⟨gb, 7, none⟩ v').heap[abs a]? = some (.cells _ _ _) from by rw [blk_setCell_ne (show abs a ≠ gb from d3.2.2.1)]; exact A5) 2 .nilIface
    simp only [List.setIfInBounds_toArray, List.set_cons_zero, List.set_cons_succ] at e
    exact e
  · rw [hwf, blk_setCell_ne (show gb ≠ abs a from fun e => d3.2.2.1 e.symm)]
    have e := blk_setCell (show w5.heap[gb]? = some (.cells _ _ _) from G5) 7 v'
    simp only [List.setIfInBounds_toArray, List.set_cons_zero, List.set_cons_succ] at e
    exact e

set_option maxRecDepth 100000 in
theorem pick_idle {a : Nat} (H : GW w0 B n c gb en m bc ck rb abs ps os avs opsV rv g w) (D : GD w0 B n gb en m bc ck rb abs) (ha : a < n) (hn : (g.acs a).now = none) (hx : (g.acs a).acts = []) (hp : g.pick ≤ 1000000) :
    Calls Tryz.prog 18 #[.pointer (some ⟨gb, 0, none⟩), .pointer (some ⟨abs a, 0, none⟩)] w (PickPost w0 B n c gb en m bc ck rb abs rv { g with pick := g.pick + 1 }) := by
  have h1 := H.setPick D
  have hA := h1.A a ha
  have hV := h1.V a ha
  simp only [pvO, hn] at hA
  simp only [hx] at hV
  obtain ⟨ao, cap, e1, _, _, _⟩ := hV
  rw [e1] at hA
  have c6 := cell_blk (show w.heap[gb]? = some (.cells _ _ _) from H.G) 6
  have f6 := free_blk (show w.heap[gb]? = some (.cells _ _ _) from H.G) 6
  simp at c6
  obtain ⟨pk, hpk⟩ : ∃ pk, pk = g.pick := ⟨_, rfl⟩
  rw [← hpk] at hp c6
  have M1 := Lib.hid (show GW w0 B n c gb en m bc ck rb abs ps os avs opsV rv { g with pick := g.pick + 1 } (w.setCell ⟨gb, 6, none⟩ (.int .i64 ((pk : Int) + 1))) from by rw [hpk]; exact h1)
  have ID := Lib.hid (idle_nil (w.setCell ⟨gb, 6, none⟩ (.int .i64 ((pk : Int) + 1))) (abs a) a ao 0 cap (os a) (by rw [hpk]; exact hA))
  clear h1 hA e1 hpk
  go_enter Tryz.func18, Tryz.ntmps18
  go_wp2_with fail
  refine ID.out.mono ?_; rintro e w1 ⟨rfl, rfl⟩
  go_wp2_with fail
  go_end0
  exact ⟨rfl, ps, os, avs, opsV, M1.out⟩

set_option maxRecDepth 100000 in
set_option maxHeartbeats 2000000 in
theorem pick_more {a : Nat} {k : K} {o : HOp} (H : GW w0 B n c gb en m bc ck rb abs ps os avs opsV rv g w) (D' : GD w0 B n gb en m bc ck rb abs) (ha : a < n) (hk : (g.acs a).now = some (k, o)) (hlv : k.over = false ∧ k.ok ∧ k.kind ≤ 2) (hp : g.pick ≤ 1000000) (hcnt : g.mem.count ≤ 3000000000000000000) (hol : g.ops.length ≤ 1000000) :
    Calls Tryz.prog 18 #[.pointer (some ⟨gb, 0, none⟩), .pointer (some ⟨abs a, 0, none⟩)] w (PickPost w0 B n c gb en m bc ck rb abs rv (g.stepped a k o)) := by
  have D := Lib.hid D'
  have HK := Lib.hid (show (({ g with pick := g.pick + 1 } : Gm).acs a).now = some (k, o) from hk)
  have LV := Lib.hid hlv
  have h1 := H.setPick D'
  have hA := h1.A a ha
  simp only [pvO, hk] at hA
  have c6 := cell_blk (show w.heap[gb]? = some (.cells _ _ _) from H.G) 6
  have f6 := free_blk (show w.heap[gb]? = some (.cells _ _ _) from H.G) 6
  simp at c6
  obtain ⟨pk, hpk⟩ : ∃ pk, pk = g.pick := ⟨_, rfl⟩
  rw [← hpk] at hp c6
  have M1 := Lib.hid (show GW w0 B n c gb en m bc ck rb abs ps os avs opsV rv { g with pick := g.pick + 1 } (w.setCell ⟨gb, 6, none⟩ (.int .i64 ((pk : Int) + 1))) from by rw [hpk]; exact h1)
  have ID := Lib.hid (idle_some (w.setCell ⟨gb, 6, none⟩ (.int .i64 ((pk : Int) + 1))) (abs a) a (avs a) k.kind (ps a) (os a) (by rw [hpk]; exact hA))
  have PK := Lib.hid hpk
  clear h1 hA hpk hk hlv D'
  go_enter Tryz.func18, Tryz.ntmps18
  go_wp2_with fail
  refine ID.out.mono ?_; rintro e w1 ⟨rfl, hw1⟩
  rw [hw1] at M1
  clear hw1 ID c6 f6

  -- the machine's step
  have cP := cell_blk (show w1.heap[abs a]? = some (.cells _ _ _) from M1.out.A a ha) 2
  have cE := cell_blk (show w1.heap[gb]? = some (.cells _ _ _) from M1.out.G) 0
  simp only [pvO, HK.out] at cP
  simp [ifc] at cP cE
  obtain ⟨kd, hkd⟩ : ∃ kd, kd = k.kind := ⟨_, rfl⟩
  obtain ⟨p, hpp⟩ : ∃ p, p = ps a := ⟨_, rfl⟩
  rw [← hkd, ← hpp] at cP
  have n2 := step_ahead kd p
  have n3 := step_method kd p
  have n4 := result_ahead kd p
  have n5 := result_method kd p
  have n6 := step_enter kd
  obtain ⟨T, hT⟩ : ∃ T, T = machT kd := ⟨_, rfl⟩
  obtain ⟨F, hF⟩ : ∃ F, F = machS kd := ⟨_, rfl⟩
  have TT := Lib.hid hT
  rw [← hT] at cP n2 n3 n4 n5
  rw [← hF] at n3 n6
  have hMM := M1.out.M a ha k o HK.out
  have ST := Lib.hid (mach_step w1.drew p en m bc k g.mem LV.out.2.2 (fun _ => LV.out.2.1) (by have h1 := D.out.hi; have h2 := hMM.1; rw [← hpp] at h2; exact ⟨by omega, by omega, by omega, M1.out.E.em, M1.out.E.ec⟩) (M1.out.E.keep0 (Only.refl _ _).drew).mem (by rw [hpp]; exact hMM.2.1) (M1.out.E.keep0 (Only.refl _ _).drew).mm (by omega))
  rw [show machS k.kind = F from by rw [hF, hkd]] at ST
  have PP := Lib.hid hpp
  have OSO := Lib.hid hMM.2.2
  have hB : B ≤ p := by rw [hpp]; exact hMM.1
  have KD := Lib.hid hkd
  obtain ⟨kk, hkk⟩ : ∃ kk, kk = (stepK k g.mem).1 := ⟨_, rfl⟩
  have KK := Lib.hid hkk
  have SAME := Lib.hid (show kk.kind = k.kind from by rw [hkk]; exact (stepK_same k g.mem).1)
  clear hMM hT hF hkd hpp hkk
  go_wp2_with fail
  go_still_tail 10, (by kernel_rfl)
  change wpList _ _ _ _ _ w1.drew
  go_wp2_with fail
  refine ST.out.mono ?_; rintro e w2 ⟨rfl, o2, hp2, hm2⟩
  rw [← KK.out] at hp2 ⊢
  have M2 := Lib.hid (M1.out.mach D.out ha HK.out (k' := kk) (s' := (stepK k g.mem).2) SAME.out (by rw [← PP.out]; exact o2.undrew) (by rw [← PP.out]; exact hp2) hm2)
  obtain ⟨t0, t1, t2⟩ := mach_cells hp2
  clear o2 hp2 hm2
  obtain ⟨ov, hov⟩ : ∃ ov, ov = kk.over := ⟨_, rfl⟩
  rw [← hov] at t0 ⊢
  have OV := Lib.hid hov
  clear hov
  cases ov with
  | false =>
    go_wp2_with fail
    go_end0
    refine ⟨rfl, ps, os, avs, opsV, ?_⟩
    rw [← fin_more (a := a) (o := o) (show (stepK k g.mem).1.over = false from by rw [← KK.out]; exact OV.out.symm)]
    rw [← KK.out]
    exact M2.out
  | true =>
    obtain ⟨cd, hcd⟩ : ∃ cd, cd = kk.code := ⟨_, rfl⟩
    obtain ⟨vl, hvl⟩ : ∃ vl, vl = kk.val := ⟨_, rfl⟩
    rw [← hcd] at t1
    rw [← hvl] at t2
    have CD := Lib.hid hcd
    have VL := Lib.hid hvl
    clear hcd hvl
    have cP2 := cell_blk (show w2.heap[abs a]? = some (.cells _ _ _) from M2.out.A a ha) 2
    simp only [pvO, upd_same] at cP2
    simp [ifc, SAME.out] at cP2
    rw [← KD.out, ← PP.out, ← TT.out] at cP2
    have RA := fun w => Lib.hid (fun h1 h2 => result_any w p cd vl h1 h2)
    go_wp2_with fail
    refine (RA _).out t1 t2 |>.mono ?_; rintro e w3 ⟨rfl, o3⟩
    have M3 := Lib.hid (M2.out.keep0 o3)
    have hA3 := Lib.hid (M3.out.A a ha)
    have hG3 := Lib.hid M3.out.G
    clear o3
    rw [OSO.out] at hA3
    obtain ⟨pv3, hpv3⟩ : ∃ v, v = pvO (upd g.acs a ⟨(g.acs a).acts, some (kk, o)⟩ a) (ps a) := ⟨_, rfl⟩
    rw [show pvO ((({ mem := (stepK k g.mem).2, acs := upd g.acs a ⟨(g.acs a).acts, some (kk, o)⟩, pick := g.pick + 1, ops := g.ops } : Gm)).acs a) (ps a) = pv3 from by rw [hpv3]] at hA3
    clear hpv3
    have d0 := cell_blk (show w3.heap[abs a]? = some (.cells _ _ _) from hA3.out) 0
    have d2 := cell_blk (show w3.heap[abs a]? = some (.cells _ _ _) from hA3.out) 2
    have d3 := cell_blk (show w3.heap[abs a]? = some (.cells _ _ _) from hA3.out) 3
    have d4 := cell_blk (show w3.heap[abs a]? = some (.cells _ _ _) from hA3.out) 4
    have d5 := cell_blk (show w3.heap[abs a]? = some (.cells _ _ _) from hA3.out) 5
    have d6 := cell_blk (show w3.heap[abs a]? = some (.cells _ _ _) from hA3.out) 6
    have d7 := cell_blk (show w3.heap[abs a]? = some (.cells _ _ _) from hA3.out) 7
    have d8 := cell_blk (show w3.heap[abs a]? = some (.cells _ _ _) from hA3.out) 8
    have f2 := free_blk (show w3.heap[abs a]? = some (.cells _ _ _) from hA3.out) 2
    have f6 := free_blk (show w3.heap[abs a]? = some (.cells _ _ _) from hA3.out) 6
    have f7 := free_blk (show w3.heap[abs a]? = some (.cells _ _ _) from hA3.out) 7
    have f8 := free_blk (show w3.heap[abs a]? = some (.cells _ _ _) from hA3.out) 8
    have q7 := cell_blk (show w3.heap[gb]? = some (.cells _ _ _) from hG3.out) 7
    have r7 := free_blk (show w3.heap[gb]? = some (.cells _ _ _) from hG3.out) 7
    have hlt := lt_of_blk hA3.out
    have hltg := lt_of_blk hG3.out
    simp at d0 d2 d3 d4 d5 d6 d7 d8 q7
    have OP3 := Lib.hid M3.out.O
    have hsz := M3.out.sz
    have hnag : abs a ≠ gb := (D.out.a a ha).2.2.1
    by_cases c1 : cd = 1
    · subst c1
      go_wp2_with fail
      obtain ⟨w4, hw4⟩ : ∃ w4, w4 = ((w3.setCell ⟨abs a, 6, none⟩ (.int .i64 pk)).setCell ⟨abs a, 7, none⟩ (.int .i64 1)).setCell ⟨abs a, 8, none⟩ (.int .i64 vl) := ⟨_, rfl⟩
      rw [← hw4]
      have O4 : Hid (Only [abs a] w3 w4) := Lib.hid (by rw [hw4]; exact (((Only.refl _ _).setCell (by simp) _).setCell (by simp) _).setCell (by simp) _)
      obtain ⟨fo, hfo⟩ : ∃ fo : HOp, fo = ⟨o.kind, o.mach, o.frm, pk, 1, vl⟩ := ⟨_, rfl⟩
      have A4 : Hid (w4.heap[abs a]? = some (actO a (avs a) pv3 fo)) := Lib.hid (by
        rw [hw4, hfo]
        have e := blk_setCell (blk_setCell (blk_setCell hA3.out 6 (.int .i64 pk)) 7 (.int .i64 1)) 8 (.int .i64 vl)
        simp only [List.setIfInBounds_toArray, List.set_cons_zero, List.set_cons_succ] at e
        exact e)
      have G4 := Lib.hid (O4.out.keep hG3.out (by simp; omega))
      have W4 := Lib.hid (owns_keepS OP3.out O4.out (fun b hb => by have := (ops_blk OP3.out b hb).1; have := (D.out.a a ha).2.1; simp; omega))
      have hsz4 : B ≤ w4.heap.size := Nat.le_trans hsz O4.out.size
      have FO := Lib.hid (show fo = finO o g.pick kk.code kk.val from by rw [hfo, ← CD.out, ← VL.out, ← PK.out]; simp [finO])
      clear d0 d2 d3 d4 d5 d6 d7 d8 f2 f6 f7 f8 q7 r7 hw4 hfo
      have d3 := cell_blk (show w4.heap[abs a]? = some (.cells _ _ _) from A4.out) 3
      have d4 := cell_blk (show w4.heap[abs a]? = some (.cells _ _ _) from A4.out) 4
      have d5 := cell_blk (show w4.heap[abs a]? = some (.cells _ _ _) from A4.out) 5
      have d6 := cell_blk (show w4.heap[abs a]? = some (.cells _ _ _) from A4.out) 6
      have d7 := cell_blk (show w4.heap[abs a]? = some (.cells _ _ _) from A4.out) 7
      have d8 := cell_blk (show w4.heap[abs a]? = some (.cells _ _ _) from A4.out) 8
      have q7 := cell_blk (show w4.heap[gb]? = some (.cells _ _ _) from G4.out) 7
      have r7 := free_blk (show w4.heap[gb]? = some (.cells _ _ _) from G4.out) 7
      simp at d3 d4 d5 d6 d7 d8 q7
      have hlt4g := lt_of_blk G4.out
      have hlt4a := lt_of_blk A4.out
      have hgB := D.out.hi.1
      have haB := (D.out.a a ha).2.1
      go_region_law ((refine step_append_op _ rfl (.tmp 73) (.tmp 78) rfl B opsV g.ops (by simp [Act.eval]) (owns_keep W4.out ((Only.refl _ _).drew.alloc _)) ⟨w4.heap.size, 0, none⟩ fo (by simp [Act.eval]) (cells_newO fo rfl) (by omega) (by simp; omega) ?_
                      intro v' w5 hown hgrow
                      obtain ⟨ao', cap', rfl⟩ := owns_slice hown
                      have HG := Lib.hid hgrow
                      have HW := Lib.hid hown
                      have G5 := Lib.hid (grow_keep W4.out ((Only.refl _ _).drew.alloc _) hgrow G4.out hgB)
                      have A5 := Lib.hid (grow_keep W4.out ((Only.refl _ _).drew.alloc _) hgrow A4.out haB)
                      have s7 := cell_blk (show w5.heap[gb]? = some (.cells _ _ _) from G5.out) 7
                      have y7 := free_blk (show w5.heap[gb]? = some (.cells _ _ _) from G5.out) 7
                      have s2 := cell_blk (show w5.heap[abs a]? = some (.cells _ _ _) from A5.out) 2
                      have y2 := free_blk (show w5.heap[abs a]? = some (.cells _ _ _) from A5.out) 2
                      simp at s7 s2
                      clear hown hgrow))
      all_goals
        go_wp2_with fail
        go_end0
        refine ⟨rfl, ps, upd (os) a fo, avs, .slice ao' (g.ops ++ [fo]).length cap', ?_⟩
        rw [← fin_done (a := a) (k := k) (o := o) KK.out OV.out.symm FO.out rfl]
        exact pick_end M3.out D.out ha (k := kk) (op := o) (by simp only [upd_same]) O4.out A4.out ((Only.refl _ _).drew.alloc _) HG.out HW.out (by simp)
    · skip
      go_wp2_with fail
      obtain ⟨w4, hw4⟩ : ∃ w4, w4 = (w3.setCell ⟨abs a, 6, none⟩ (.int .i64 pk)).setCell ⟨abs a, 7, none⟩ (.int .i64 cd) := ⟨_, rfl⟩
      rw [← hw4]
      have O4 : Hid (Only [abs a] w3 w4) := Lib.hid (by rw [hw4]; exact ((Only.refl _ _).setCell (by simp) _).setCell (by simp) _)
      obtain ⟨fo, hfo⟩ : ∃ fo : HOp, fo = ⟨o.kind, o.mach, o.frm, pk, cd, o.value⟩ := ⟨_, rfl⟩
      have A4 : Hid (w4.heap[abs a]? = some (actO a (avs a) pv3 fo)) := Lib.hid (by
        rw [hw4, hfo]
        have e := blk_setCell (blk_setCell hA3.out 6 (.int .i64 pk)) 7 (.int .i64 cd)
        simp only [List.setIfInBounds_toArray, List.set_cons_zero, List.set_cons_succ] at e
        exact e)
      have G4 := Lib.hid (O4.out.keep hG3.out (by simp; omega))
      have W4 := Lib.hid (owns_keepS OP3.out O4.out (fun b hb => by have := (ops_blk OP3.out b hb).1; have := (D.out.a a ha).2.1; simp; omega))
      have hsz4 : B ≤ w4.heap.size := Nat.le_trans hsz O4.out.size
      have FO := Lib.hid (show fo = finO o g.pick kk.code kk.val from by rw [hfo, ← CD.out, ← PK.out]; simp [finO, c1])
      clear d0 d2 d3 d4 d5 d6 d7 d8 f2 f6 f7 f8 q7 r7 hw4 hfo
      have d3 := cell_blk (show w4.heap[abs a]? = some (.cells _ _ _) from A4.out) 3
      have d4 := cell_blk (show w4.heap[abs a]? = some (.cells _ _ _) from A4.out) 4
      have d5 := cell_blk (show w4.heap[abs a]? = some (.cells _ _ _) from A4.out) 5
      have d6 := cell_blk (show w4.heap[abs a]? = some (.cells _ _ _) from A4.out) 6
      have d7 := cell_blk (show w4.heap[abs a]? = some (.cells _ _ _) from A4.out) 7
      have d8 := cell_blk (show w4.heap[abs a]? = some (.cells _ _ _) from A4.out) 8
      have q7 := cell_blk (show w4.heap[gb]? = some (.cells _ _ _) from G4.out) 7
      have r7 := free_blk (show w4.heap[gb]? = some (.cells _ _ _) from G4.out) 7
      simp at d3 d4 d5 d6 d7 d8 q7
      have hlt4g := lt_of_blk G4.out
      have hlt4a := lt_of_blk A4.out
      have hgB := D.out.hi.1
      have haB := (D.out.a a ha).2.1
      go_region_law ((refine step_append_op _ rfl (.tmp 73) (.tmp 78) rfl B opsV g.ops (by simp [Act.eval]) (owns_keep W4.out ((Only.refl _ _).drew.alloc _)) ⟨w4.heap.size, 0, none⟩ fo (by simp [Act.eval]) (cells_newO fo rfl) (by omega) (by simp; omega) ?_
                      intro v' w5 hown hgrow
                      obtain ⟨ao', cap', rfl⟩ := owns_slice hown
                      have HG := Lib.hid hgrow
                      have HW := Lib.hid hown
                      have G5 := Lib.hid (grow_keep W4.out ((Only.refl _ _).drew.alloc _) hgrow G4.out hgB)
                      have A5 := Lib.hid (grow_keep W4.out ((Only.refl _ _).drew.alloc _) hgrow A4.out haB)
                      have s7 := cell_blk (show w5.heap[gb]? = some (.cells _ _ _) from G5.out) 7
                      have y7 := free_blk (show w5.heap[gb]? = some (.cells _ _ _) from G5.out) 7
                      have s2 := cell_blk (show w5.heap[abs a]? = some (.cells _ _ _) from A5.out) 2
                      have y2 := free_blk (show w5.heap[abs a]? = some (.cells _ _ _) from A5.out) 2
                      simp at s7 s2
                      clear hown hgrow))
      all_goals
        go_wp2_with fail
        go_end0
        refine ⟨rfl, ps, upd (os) a fo, avs, .slice ao' (g.ops ++ [fo]).length cap', ?_⟩
        rw [← fin_done (a := a) (k := k) (o := o) KK.out OV.out.symm FO.out rfl]
        exact pick_end M3.out D.out ha (k := kk) (op := o) (by simp only [upd_same]) O4.out A4.out ((Only.refl _ _).drew.alloc _) HG.out HW.out (by simp)

set_option maxRecDepth 100000 in
set_option maxHeartbeats 2000000 in
theorem pick_begin {gs : Gm} {a : Nat} {k : K} {o : HOp} {x : Int × Int} {r : List (Int × Int)} (H : GW w0 B n c gb en m bc ck rb abs ps os avs opsV rv gs w) (D' : GD w0 B n gb en m bc ck rb abs) (ha : a < n) (hn : (gs.acs a).now = none) (hx : (gs.acs a).acts = x :: r)
    (hk : k = newK (q0 c) x) (ho : o = op0 a gs.pick x) (hg : g = gs.set a ⟨r, some (k, o)⟩) (hlv : k.over = false ∧ k.ok ∧ k.kind ≤ 2) (hp : g.pick ≤ 1000000) (hcnt : g.mem.count ≤ 3000000000000000000) (hol : g.ops.length ≤ 1000000) :
    Calls Tryz.prog 18 #[.pointer (some ⟨gb, 0, none⟩), .pointer (some ⟨abs a, 0, none⟩)] w (PickPost w0 B n c gb en m bc ck rb abs rv (g.stepped a k o)) := by
  have D := Lib.hid D'
  have HK := Lib.hid (show (({ g with pick := g.pick + 1 } : Gm).acs a).now = some (k, o) from by rw [hg]; exact congrArg Ac.now (upd_same _ _ _))
  have LV := Lib.hid hlv
  have h1 := H.setPick D'
  have hA := h1.A a ha
  have hV := h1.V a ha
  simp only [pvO, hn] at hA
  simp only [hx] at hV
  obtain ⟨ao, cap, e1, _, _, _⟩ := hV
  have hA2 := hA
  rw [e1] at hA2
  have c6 := cell_blk (show w.heap[gb]? = some (.cells _ _ _) from H.G) 6
  have f6 := free_blk (show w.heap[gb]? = some (.cells _ _ _) from H.G) 6
  simp at c6
  have hpg : g.pick = gs.pick := by rw [hg]; rfl
  obtain ⟨pk, hpk⟩ : ∃ pk, pk = gs.pick := ⟨_, rfl⟩
  rw [hpg, ← hpk] at hp
  rw [← hpk] at c6
  have ID := Lib.hid (idle_nil (w.setCell ⟨gb, 6, none⟩ (.int .i64 ((pk : Int) + 1))) (abs a) a ao (x :: r).length cap (os a) (by rw [hpk]; exact hA2))
  obtain ⟨wS, hwS⟩ : ∃ wS, wS = w.setCell ⟨gb, 6, none⟩ (.int .i64 ((pk : Int) + 1)) := ⟨_, rfl⟩
  have c1S : wS.cell? ⟨abs a, 2, none⟩ = some .nilIface := by
    have := cell_blk (show wS.heap[abs a]? = some (.cells _ _ _) from by rw [hwS, hpk]; exact hA) 2
    simpa using this
  have gq : wS.cell? ⟨gb, 1, none⟩ = some (.int .i64 0) ∧ wS.cell? ⟨gb, 2, none⟩ = some (.int .i64 1) ∧ wS.cell? ⟨gb, 3, none⟩ = some (.int .i64 2) ∧ wS.cell? ⟨gb, 4, none⟩ = some (.int .i64 c) := by
    have hG := h1.G
    rw [← hpk, ← hwS] at hG
    refine ⟨?_, ?_, ?_, ?_⟩
    · rw [cell_blk (show wS.heap[gb]? = some (.cells _ _ _) from hG)]; rfl
    · rw [cell_blk (show wS.heap[gb]? = some (.cells _ _ _) from hG)]; rfl
    · rw [cell_blk (show wS.heap[gb]? = some (.cells _ _ _) from hG)]; rfl
    · rw [cell_blk (show wS.heap[gb]? = some (.cells _ _ _) from hG)]; rfl
  obtain ⟨gq1, gq2, gq3, gq4⟩ := gq
  have BG := Lib.hid (begin_any wS (abs a) a pk (avs a) (os a) (q0 c) x r (by rw [hwS, hpk]; exact hA) (by have := h1.V a ha; simp only [hx] at this; rw [hwS, hpk]; exact this) (fun b off k2 cap2 e => (h1.VB a ha b off k2 cap2 e).2.2.2.2 a ha))
  have H1 := Lib.hid (show GW w0 B n c gb en m bc ck rb abs ps os avs opsV rv { gs with pick := gs.pick + 1 } wS from by rw [hwS, hpk]; exact h1)
  have PK := Lib.hid (hpk.trans hpg.symm)
  have PK0 := Lib.hid hpk
  have HG0 := Lib.hid (And.intro hg (And.intro hk (And.intro ho (And.intro hn hx))))
  have hl0 : decide ((x :: r).length = 0) = false := by simp
  rw [hl0, ← hwS] at ID
  have HWS := Lib.hid hwS
  clear h1 hA hA2 e1 hpk hn hx hk ho hg hlv D' hpg hl0 hwS
  go_enter Tryz.func18, Tryz.ntmps18
  go_wp2_with fail
  rw [← HWS.out]
  refine ID.out.mono ?_; rintro e w1 ⟨rfl, hw1⟩
  subst hw1
  clear ID c6 f6
  go_wp2_with fail
  refine BG.out.mono ?_; rintro e w1 ⟨av, p0, rfl, o1, hA1, hv1, hm1, lo1, hi1, hb1⟩
  have M1 := Lib.hid (show GW w0 B n c gb en m bc ck rb abs (upd ps a p0) (upd os a o) (upd avs a av) opsV rv { g with pick := g.pick + 1 } w1 from by
    obtain ⟨hg, hk, ho, hn, hx⟩ := HG0.out
    have e := GW.begun (x := x) (r := r) (pick := pk) (p := p0) (av := av) H1.out D.out ha hn hx o1 hA1 hv1 hm1 lo1 hb1
    rw [hg]
    rw [PK0.out] at e
    rw [← hk, ← ho] at e
    exact e)
  obtain ⟨ps', hps'⟩ : ∃ f, f = upd ps a p0 := ⟨_, rfl⟩
  obtain ⟨os', hos'⟩ : ∃ f, f = upd os a o := ⟨_, rfl⟩
  obtain ⟨avs', havs'⟩ : ∃ f, f = upd avs a av := ⟨_, rfl⟩
  rw [← hps', ← hos', ← havs'] at M1
  clear hps' hos' havs' o1 hA1 hv1 hm1 lo1 hi1 hb1 H1 HG0 BG HWS c1S gq1 gq2 gq3 gq4 H

  -- the machine's step
  have cP := cell_blk (show w1.heap[abs a]? = some (.cells _ _ _) from M1.out.A a ha) 2
  have cE := cell_blk (show w1.heap[gb]? = some (.cells _ _ _) from M1.out.G) 0
  simp only [pvO, HK.out] at cP
  simp [ifc] at cP cE
  obtain ⟨kd, hkd⟩ : ∃ kd, kd = k.kind := ⟨_, rfl⟩
  obtain ⟨p, hpp⟩ : ∃ p, p = ps' a := ⟨_, rfl⟩
  rw [← hkd, ← hpp] at cP
  have n2 := step_ahead kd p
  have n3 := step_method kd p
  have n4 := result_ahead kd p
  have n5 := result_method kd p
  have n6 := step_enter kd
  obtain ⟨T, hT⟩ : ∃ T, T = machT kd := ⟨_, rfl⟩
  obtain ⟨F, hF⟩ : ∃ F, F = machS kd := ⟨_, rfl⟩
  have TT := Lib.hid hT
  rw [← hT] at cP n2 n3 n4 n5
  rw [← hF] at n3 n6
  have hMM := M1.out.M a ha k o HK.out
  have ST := Lib.hid (mach_step w1.drew p en m bc k g.mem LV.out.2.2 (fun _ => LV.out.2.1) (by have h1 := D.out.hi; have h2 := hMM.1; rw [← hpp] at h2; exact ⟨by omega, by omega, by omega, M1.out.E.em, M1.out.E.ec⟩) (M1.out.E.keep0 (Only.refl _ _).drew).mem (by rw [hpp]; exact hMM.2.1) (M1.out.E.keep0 (Only.refl _ _).drew).mm (by omega))
  rw [show machS k.kind = F from by rw [hF, hkd]] at ST
  have PP := Lib.hid hpp
  have OSO := Lib.hid hMM.2.2
  have hB : B ≤ p := by rw [hpp]; exact hMM.1
  have KD := Lib.hid hkd
  obtain ⟨kk, hkk⟩ : ∃ kk, kk = (stepK k g.mem).1 := ⟨_, rfl⟩
  have KK := Lib.hid hkk
  have SAME := Lib.hid (show kk.kind = k.kind from by rw [hkk]; exact (stepK_same k g.mem).1)
  clear hMM hT hF hkd hpp hkk
  go_wp2_with fail
  go_still_tail 10, (by kernel_rfl)
  change wpList _ _ _ _ _ w1.drew
  go_wp2_with fail
  refine ST.out.mono ?_; rintro e w2 ⟨rfl, o2, hp2, hm2⟩
  rw [← KK.out] at hp2 ⊢
  have M2 := Lib.hid (M1.out.mach D.out ha HK.out (k' := kk) (s' := (stepK k g.mem).2) SAME.out (by rw [← PP.out]; exact o2.undrew) (by rw [← PP.out]; exact hp2) hm2)
  obtain ⟨t0, t1, t2⟩ := mach_cells hp2
  clear o2 hp2 hm2
  obtain ⟨ov, hov⟩ : ∃ ov, ov = kk.over := ⟨_, rfl⟩
  rw [← hov] at t0 ⊢
  have OV := Lib.hid hov
  clear hov
  cases ov with
  | false =>
    go_wp2_with fail
    go_end0
    refine ⟨rfl, ps', os', avs', opsV, ?_⟩
    rw [← fin_more (a := a) (o := o) (show (stepK k g.mem).1.over = false from by rw [← KK.out]; exact OV.out.symm)]
    rw [← KK.out]
    exact M2.out
  | true =>
    obtain ⟨cd, hcd⟩ : ∃ cd, cd = kk.code := ⟨_, rfl⟩
    obtain ⟨vl, hvl⟩ : ∃ vl, vl = kk.val := ⟨_, rfl⟩
    rw [← hcd] at t1
    rw [← hvl] at t2
    have CD := Lib.hid hcd
    have VL := Lib.hid hvl
    clear hcd hvl
    have cP2 := cell_blk (show w2.heap[abs a]? = some (.cells _ _ _) from M2.out.A a ha) 2
    simp only [pvO, upd_same] at cP2
    simp [ifc, SAME.out] at cP2
    rw [← KD.out, ← PP.out, ← TT.out] at cP2
    have RA := fun w => Lib.hid (fun h1 h2 => result_any w p cd vl h1 h2)
    go_wp2_with fail
    refine (RA _).out t1 t2 |>.mono ?_; rintro e w3 ⟨rfl, o3⟩
    have M3 := Lib.hid (M2.out.keep0 o3)
    have hA3 := Lib.hid (M3.out.A a ha)
    have hG3 := Lib.hid M3.out.G
    clear o3
    rw [OSO.out] at hA3
    obtain ⟨pv3, hpv3⟩ : ∃ v, v = pvO (upd g.acs a ⟨(g.acs a).acts, some (kk, o)⟩ a) (ps' a) := ⟨_, rfl⟩
    rw [show pvO ((({ mem := (stepK k g.mem).2, acs := upd g.acs a ⟨(g.acs a).acts, some (kk, o)⟩, pick := g.pick + 1, ops := g.ops } : Gm)).acs a) (ps' a) = pv3 from by rw [hpv3]] at hA3
    clear hpv3
    have d0 := cell_blk (show w3.heap[abs a]? = some (.cells _ _ _) from hA3.out) 0
    have d2 := cell_blk (show w3.heap[abs a]? = some (.cells _ _ _) from hA3.out) 2
    have d3 := cell_blk (show w3.heap[abs a]? = some (.cells _ _ _) from hA3.out) 3
    have d4 := cell_blk (show w3.heap[abs a]? = some (.cells _ _ _) from hA3.out) 4
    have d5 := cell_blk (show w3.heap[abs a]? = some (.cells _ _ _) from hA3.out) 5
    have d6 := cell_blk (show w3.heap[abs a]? = some (.cells _ _ _) from hA3.out) 6
    have d7 := cell_blk (show w3.heap[abs a]? = some (.cells _ _ _) from hA3.out) 7
    have d8 := cell_blk (show w3.heap[abs a]? = some (.cells _ _ _) from hA3.out) 8
    have f2 := free_blk (show w3.heap[abs a]? = some (.cells _ _ _) from hA3.out) 2
    have f6 := free_blk (show w3.heap[abs a]? = some (.cells _ _ _) from hA3.out) 6
    have f7 := free_blk (show w3.heap[abs a]? = some (.cells _ _ _) from hA3.out) 7
    have f8 := free_blk (show w3.heap[abs a]? = some (.cells _ _ _) from hA3.out) 8
    have q7 := cell_blk (show w3.heap[gb]? = some (.cells _ _ _) from hG3.out) 7
    have r7 := free_blk (show w3.heap[gb]? = some (.cells _ _ _) from hG3.out) 7
    have hlt := lt_of_blk hA3.out
    have hltg := lt_of_blk hG3.out
    simp at d0 d2 d3 d4 d5 d6 d7 d8 q7
    have OP3 := Lib.hid M3.out.O
    have hsz := M3.out.sz
    have hnag : abs a ≠ gb := (D.out.a a ha).2.2.1
    by_cases c1 : cd = 1
    · subst c1
      go_wp2_with fail
      obtain ⟨w4, hw4⟩ : ∃ w4, w4 = ((w3.setCell ⟨abs a, 6, none⟩ (.int .i64 pk)).setCell ⟨abs a, 7, none⟩ (.int .i64 1)).setCell ⟨abs a, 8, none⟩ (.int .i64 vl) := ⟨_, rfl⟩
      rw [← hw4]
      have O4 : Hid (Only [abs a] w3 w4) := Lib.hid (by rw [hw4]; exact (((Only.refl _ _).setCell (by simp) _).setCell (by simp) _).setCell (by simp) _)
      obtain ⟨fo, hfo⟩ : ∃ fo : HOp, fo = ⟨o.kind, o.mach, o.frm, pk, 1, vl⟩ := ⟨_, rfl⟩
      have A4 : Hid (w4.heap[abs a]? = some (actO a (avs' a) pv3 fo)) := Lib.hid (by
        rw [hw4, hfo]
        have e := blk_setCell (blk_setCell (blk_setCell hA3.out 6 (.int .i64 pk)) 7 (.int .i64 1)) 8 (.int .i64 vl)
        simp only [List.setIfInBounds_toArray, List.set_cons_zero, List.set_cons_succ] at e
        exact e)
      have G4 := Lib.hid (O4.out.keep hG3.out (by simp; omega))
      have W4 := Lib.hid (owns_keepS OP3.out O4.out (fun b hb => by have := (ops_blk OP3.out b hb).1; have := (D.out.a a ha).2.1; simp; omega))
      have hsz4 : B ≤ w4.heap.size := Nat.le_trans hsz O4.out.size
      have FO := Lib.hid (show fo = finO o g.pick kk.code kk.val from by rw [hfo, ← CD.out, ← VL.out, ← PK.out]; simp [finO])
      clear d0 d2 d3 d4 d5 d6 d7 d8 f2 f6 f7 f8 q7 r7 hw4 hfo
      have d3 := cell_blk (show w4.heap[abs a]? = some (.cells _ _ _) from A4.out) 3
      have d4 := cell_blk (show w4.heap[abs a]? = some (.cells _ _ _) from A4.out) 4
      have d5 := cell_blk (show w4.heap[abs a]? = some (.cells _ _ _) from A4.out) 5
      have d6 := cell_blk (show w4.heap[abs a]? = some (.cells _ _ _) from A4.out) 6
      have d7 := cell_blk (show w4.heap[abs a]? = some (.cells _ _ _) from A4.out) 7
      have d8 := cell_blk (show w4.heap[abs a]? = some (.cells _ _ _) from A4.out) 8
      have q7 := cell_blk (show w4.heap[gb]? = some (.cells _ _ _) from G4.out) 7
      have r7 := free_blk (show w4.heap[gb]? = some (.cells _ _ _) from G4.out) 7
      simp at d3 d4 d5 d6 d7 d8 q7
      have hlt4g := lt_of_blk G4.out
      have hlt4a := lt_of_blk A4.out
      have hgB := D.out.hi.1
      have haB := (D.out.a a ha).2.1
      go_region_law ((refine step_append_op _ rfl (.tmp 73) (.tmp 78) rfl B opsV g.ops (by simp [Act.eval]) (owns_keep W4.out ((Only.refl _ _).drew.alloc _)) ⟨w4.heap.size, 0, none⟩ fo (by simp [Act.eval]) (cells_newO fo rfl) (by omega) (by simp; omega) ?_
                      intro v' w5 hown hgrow
                      obtain ⟨ao', cap', rfl⟩ := owns_slice hown
                      have HG := Lib.hid hgrow
                      have HW := Lib.hid hown
                      have G5 := Lib.hid (grow_keep W4.out ((Only.refl _ _).drew.alloc _) hgrow G4.out hgB)
                      have A5 := Lib.hid (grow_keep W4.out ((Only.refl _ _).drew.alloc _) hgrow A4.out haB)
                      have s7 := cell_blk (show w5.heap[gb]? = some (.cells _ _ _) from G5.out) 7
                      have y7 := free_blk (show w5.heap[gb]? = some (.cells _ _ _) from G5.out) 7
                      have s2 := cell_blk (show w5.heap[abs a]? = some (.cells _ _ _) from A5.out) 2
                      have y2 := free_blk (show w5.heap[abs a]? = some (.cells _ _ _) from A5.out) 2
                      simp at s7 s2
                      clear hown hgrow))
      all_goals
        go_wp2_with fail
        go_end0
        refine ⟨rfl, ps', upd (os') a fo, avs', .slice ao' (g.ops ++ [fo]).length cap', ?_⟩
        rw [← fin_done (a := a) (k := k) (o := o) KK.out OV.out.symm FO.out rfl]
        exact pick_end M3.out D.out ha (k := kk) (op := o) (by simp only [upd_same]) O4.out A4.out ((Only.refl _ _).drew.alloc _) HG.out HW.out (by simp)
    · skip
      go_wp2_with fail
      obtain ⟨w4, hw4⟩ : ∃ w4, w4 = (w3.setCell ⟨abs a, 6, none⟩ (.int .i64 pk)).setCell ⟨abs a, 7, none⟩ (.int .i64 cd) := ⟨_, rfl⟩
      rw [← hw4]
      have O4 : Hid (Only [abs a] w3 w4) := Lib.hid (by rw [hw4]; exact ((Only.refl _ _).setCell (by simp) _).setCell (by simp) _)
      obtain ⟨fo, hfo⟩ : ∃ fo : HOp, fo = ⟨o.kind, o.mach, o.frm, pk, cd, o.value⟩ := ⟨_, rfl⟩
      have A4 : Hid (w4.heap[abs a]? = some (actO a (avs' a) pv3 fo)) := Lib.hid (by
        rw [hw4, hfo]
        have e := blk_setCell (blk_setCell hA3.out 6 (.int .i64 pk)) 7 (.int .i64 cd)
        simp only [List.setIfInBounds_toArray, List.set_cons_zero, List.set_cons_succ] at e
        exact e)
      have G4 := Lib.hid (O4.out.keep hG3.out (by simp; omega))
      have W4 := Lib.hid (owns_keepS OP3.out O4.out (fun b hb => by have := (ops_blk OP3.out b hb).1; have := (D.out.a a ha).2.1; simp; omega))
      have hsz4 : B ≤ w4.heap.size := Nat.le_trans hsz O4.out.size
      have FO := Lib.hid (show fo = finO o g.pick kk.code kk.val from by rw [hfo, ← CD.out, ← PK.out]; simp [finO, c1])
      clear d0 d2 d3 d4 d5 d6 d7 d8 f2 f6 f7 f8 q7 r7 hw4 hfo
      have d3 := cell_blk (show w4.heap[abs a]? = some (.cells _ _ _) from A4.out) 3
      have d4 := cell_blk (show w4.heap[abs a]? = some (.cells _ _ _) from A4.out) 4
      have d5 := cell_blk (show w4.heap[abs a]? = some (.cells _ _ _) from A4.out) 5
      have d6 := cell_blk (show w4.heap[abs a]? = some (.cells _ _ _) from A4.out) 6
      have d7 := cell_blk (show w4.heap[abs a]? = some (.cells _ _ _) from A4.out) 7
      have d8 := cell_blk (show w4.heap[abs a]? = some (.cells _ _ _) from A4.out) 8
      have q7 := cell_blk (show w4.heap[gb]? = some (.cells _ _ _) from G4.out) 7
      have r7 := free_blk (show w4.heap[gb]? = some (.cells _ _ _) from G4.out) 7
      simp at d3 d4 d5 d6 d7 d8 q7
      have hlt4g := lt_of_blk G4.out
      have hlt4a := lt_of_blk A4.out
      have hgB := D.out.hi.1
      have haB := (D.out.a a ha).2.1
      go_region_law ((refine step_append_op _ rfl (.tmp 73) (.tmp 78) rfl B opsV g.ops (by simp [Act.eval]) (owns_keep W4.out ((Only.refl _ _).drew.alloc _)) ⟨w4.heap.size, 0, none⟩ fo (by simp [Act.eval]) (cells_newO fo rfl) (by omega) (by simp; omega) ?_
                      intro v' w5 hown hgrow
                      obtain ⟨ao', cap', rfl⟩ := owns_slice hown
                      have HG := Lib.hid hgrow
                      have HW := Lib.hid hown
                      have G5 := Lib.hid (grow_keep W4.out ((Only.refl _ _).drew.alloc _) hgrow G4.out hgB)
                      have A5 := Lib.hid (grow_keep W4.out ((Only.refl _ _).drew.alloc _) hgrow A4.out haB)
                      have s7 := cell_blk (show w5.heap[gb]? = some (.cells _ _ _) from G5.out) 7
                      have y7 := free_blk (show w5.heap[gb]? = some (.cells _ _ _) from G5.out) 7
                      have s2 := cell_blk (show w5.heap[abs a]? = some (.cells _ _ _) from A5.out) 2
                      have y2 := free_blk (show w5.heap[abs a]? = some (.cells _ _ _) from A5.out) 2
                      simp at s7 s2
                      clear hown hgrow))
      all_goals
        go_wp2_with fail
        go_end0
        refine ⟨rfl, ps', upd (os') a fo, avs', .slice ao' (g.ops ++ [fo]).length cap', ?_⟩
        rw [← fin_done (a := a) (k := k) (o := o) KK.out OV.out.symm FO.out rfl]
        exact pick_end M3.out D.out ha (k := kk) (op := o) (by simp only [upd_same]) O4.out A4.out ((Only.refl _ _).drew.alloc _) HG.out HW.out (by simp)
end
end Go.Proofs.YtfhkhknnoepfeaaGreat
