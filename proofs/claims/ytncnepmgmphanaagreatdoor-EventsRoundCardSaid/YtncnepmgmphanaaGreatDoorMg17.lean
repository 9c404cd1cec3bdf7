/- What a Run frame enters at its first line (printed by gen_ent1.py). No condition beside those named. -/
import Derived.Test.YtncnepmgmphanaaGreatDoorMg16
import Derived.Test.YtncnepmgmphanaaGreatDoorTcS2
set_option linter.unusedVariables false
set_option linter.unusedSimpArgs false
set_option linter.unusedSectionVars false
namespace Go.Proofs.YtncnepmgmphanaaGreatDoor
open Go.RowKit
variable {sh : Sh} {B N T : Nat} {w w' : World}
def altCh (l : List Int) : List (AT × Hm) := l.map fun ln => (.tup [], [((1, 118, 1), .kon .i64 ln)])
def altEn (l : List Int) : List (AT × Hm) := l.map fun ln => (if ln = 5 then .tup [.ak cs_r08_Frame [12], .bk true] else .tup [.ak cs_r08_Frame [0], .bk false], [((1, 118, 1), .kon .i64 ln)])
def sg_choose1 : FSig := ⟨[.ptr 66 0 .env, .ptr 118 0 (.par 1)], .tup [], [.par 1 118 1, .par 1 118 10], 0, [((1, 118, 1), .kon .i64 1), ((1, 118, 17), .val 0)], []⟩
def sg_enterRun1 : FSig := ⟨[.ptr 66 0 .env, .ptr 118 0 (.par 1)], .tup [], [.par 1 118 1, .par 1 118 10], 0, [((1, 118, 1), .kon .i64 1), ((1, 118, 17), .val 0)], []⟩
def sg_entA1 : FSig := ⟨[.ptr 66 0 .env, .ptr 118 0 (.par 1)], .tup [], [.par 1 118 1, .par 1 118 10], 0, [((1, 118, 0), .kon .i64 24), ((1, 118, 1), .kon .i64 1), ((1, 118, 17), .val 0)], []⟩
def prot2 : List (Nat × Nat) := prot ++ [(137, 0), (137, 1), (137, 2), (137, 3), (137, 4), (137, 5), (137, 6)]
theorem chk_enterRun1O : fnChkR2 Tryz.prog kd evE (ftLook []) (faLook [(132, sg_choose1, altCh [23])]) false prot2 Tryz.f87 sg_enterRun1 (altEn [23]) = true := by kernel_rfl
theorem chk_enter1O : fnChkR2 Tryz.prog kd evE (ftLook []) (faLook [(87, sg_enterRun1, altEn [23])]) false prot2 Tryz.f66 sg_entA1 (altEn [23]) = true := by kernel_rfl
theorem tca_enter1O {G : World → Prop} (hev : EvG sh G) (hS : Safe kd prot2 G) (hch : TCa Tryz.prog kd sh B G 132 sg_choose1 (altCh [23])) : TCa Tryz.prog kd sh B G 66 sg_entA1 (altEn [23]) :=
  fn_soundR2 Tryz.func66 chk_enter1O hft_nil (hfa_cons call_enterRun (fn_soundR2 Tryz.func87 chk_enterRun1O hft_nil (hfa_cons call_choose hch hfa_nil) hev hS mixed) hfa_nil) hev hS mixed
theorem chk_enterRun1A : fnChkR2 Tryz.prog kd evE (ftLook []) (faLook [(132, sg_choose1, altCh [2, 3, 4, 5, 10, 17])]) false prot2 Tryz.f87 sg_enterRun1 (altEn [2, 3, 4, 5, 10, 17]) = true := by kernel_rfl
theorem chk_enter1A : fnChkR2 Tryz.prog kd evE (ftLook []) (faLook [(87, sg_enterRun1, altEn [2, 3, 4, 5, 10, 17])]) false prot2 Tryz.f66 sg_entA1 (altEn [2, 3, 4, 5, 10, 17]) = true := by kernel_rfl
theorem tca_enter1A {G : World → Prop} (hev : EvG sh G) (hS : Safe kd prot2 G) (hch : TCa Tryz.prog kd sh B G 132 sg_choose1 (altCh [2, 3, 4, 5, 10, 17])) : TCa Tryz.prog kd sh B G 66 sg_entA1 (altEn [2, 3, 4, 5, 10, 17]) :=
  fn_soundR2 Tryz.func66 chk_enter1A hft_nil (hfa_cons call_enterRun (fn_soundR2 Tryz.func87 chk_enterRun1A hft_nil (hfa_cons call_choose hch hfa_nil) hev hS mixed) hfa_nil) hev hS mixed
theorem chk_enterRun1N : fnChkR2 Tryz.prog kd evE (ftLook []) (faLook [(132, sg_choose1, altCh [2, 4, 10, 17])]) false prot2 Tryz.f87 sg_enterRun1 (altEn [2, 4, 10, 17]) = true := by kernel_rfl
theorem chk_enter1N : fnChkR2 Tryz.prog kd evE (ftLook []) (faLook [(87, sg_enterRun1, altEn [2, 4, 10, 17])]) false prot2 Tryz.f66 sg_entA1 (altEn [2, 4, 10, 17]) = true := by kernel_rfl
theorem tca_enter1N {G : World → Prop} (hev : EvG sh G) (hS : Safe kd prot2 G) (hch : TCa Tryz.prog kd sh B G 132 sg_choose1 (altCh [2, 4, 10, 17])) : TCa Tryz.prog kd sh B G 66 sg_entA1 (altEn [2, 4, 10, 17]) :=
  fn_soundR2 Tryz.func66 chk_enter1N hft_nil (hfa_cons call_enterRun (fn_soundR2 Tryz.func87 chk_enterRun1N hft_nil (hfa_cons call_choose hch hfa_nil) hev hS mixed) hfa_nil) hev hS mixed
end Go.Proofs.YtncnepmgmphanaaGreatDoor

namespace Go.Proofs.YtncnepmgmphanaaGreatDoor
open Go.RowKit
variable [Inhabited SBW] {sh : Sh} {B N T : Nat} {w w' : World}
theorem tca_choose1 {G : World → Prop} {lb n cap rb cr : Nat} {t : Int} {l : List Int} (hE : ∀ w', G w' → ∃ N', EE sh B N' T w') (hrb : sh.el 19 = .slice (some ⟨rb, 0, none⟩) T cr) (v0 : sh.vals 0 = .slice (some ⟨lb, 0, none⟩) (n + 1) cap) (hlt : ∀ w', G w' → w'.cell? ⟨lb, n, none⟩ = some (.int .i64 t))
    (hl : ∀ w' ln, G w' → ((ln = 23 ∧ (t < 0 ∨ (T : Int) ≤ t)) ∨ (ln ∈ [2, 3, 4, 5, 10, 17] ∧ 0 ≤ t ∧ t < T ∧ ((ln = 3 ∨ ln = 5) → PcIn w' sh.pe rb t.toNat))) → ln ∈ l) : TCa Tryz.prog kd sh B G 132 sg_choose1 (altCh l) := by
  intro N w args ha hB hN hw hG hp hpre
  have hNN : N ≤ 68719476736 := by simpa [sg_choose1] using hN
  obtain ⟨a, b, rfl⟩ := args2 ha
  obtain ⟨pb, pr, ea, -, -, hpb, hpr⟩ := arg_at hp (i := 0) rfl rfl
  have hpb' : pb = sh.pe := hpb
  clear hpb
  subst hpb'
  subst hpr
  obtain rfl := ea
  obtain ⟨fb, r, rfl, -, hrow, hps, hfb⟩ := arg_at hp (i := 1) rfl rfl
  obtain ⟨-, -, -, u1, h1, h1'⟩ := hpre 1 FRT 1 (.kon .i64 1) rfl
  obtain ⟨-, -, -, u2, h2, h2'⟩ := hpre 1 FRT 17 (.val 0) rfl
  rw [hps, szF] at h1 h2
  rw [h1'.1] at h1
  have h2'' : u2 = sh.vals 0 := h2'
  rw [h2'', v0] at h2
  obtain ⟨f, hf1, hf2, hf3⟩ := id hrow
  have hf3 : (r + 1) * 18 ≤ f.size := by
    have := hf3
    rw [show kd.sz 118 = 18 from szF] at this
    exact this
  obtain ⟨N', ee⟩ := hE w hG
  obtain ⟨e, he1, he2, he3⟩ := ee.blk
  have he3 : 21 ≤ e.size := by rw [szE] at he3; omega
  have eqa : (#[Value.pointer (some ⟨sh.pe, 0 * kd.sz 66 + 0, none⟩), Value.pointer (some ⟨fb, r * kd.sz 118 + 0, none⟩)] : Array Value) = #[.pointer (some ⟨sh.pe, 0, none⟩), .pointer (some ⟨fb, r * 18, none⟩)] := by
    rw [show kd.sz 118 = 18 from szF]; simp
  have c1 := choose_1 (B := B) w sh.pe fb r lb n cap rb T cr (sh.el 9) t T f hNN hw hB hf2 hf1 hf3 e he2 he1 he3 h1 h2 (hlt w hG) ee.tasks (ee.el 9 (by decide)) (by rw [← hrb]; exact ee.el 19 (by decide)) rfl ee.progs
  have c2 : Calls Tryz.prog 132 #[Value.pointer (some ⟨sh.pe, 0 * kd.sz 66 + 0, none⟩), Value.pointer (some ⟨fb, r * kd.sz 118 + 0, none⟩)] w fun e w' => e = .returned (.tuple #[]) ∧ ∃ ln : Int, ChPost B N w w' fb (r * 18) ln ∧ inK .i64 ln ∧ ln ∈ l := by
    rw [eqa]
    refine c1.mono ?_
    rintro e w' ⟨rfl, ln, hc, hx⟩
    refine ⟨rfl, ln, hc, ?_, hl w ln hG hx⟩
    rcases hx with ⟨rfl, -⟩ | ⟨hm, -⟩
    · exact i64_in (by omega)
    · simp only [List.mem_cons, List.not_mem_nil, or_false] at hm
      exact i64_in (by omega)
  refine c2.mono ?_
  rintro e w' ⟨rfl, ln, hc, hli, hln⟩
  refine ⟨_, rfl, hc.wt, hc.eff.monoT fun k c U f' j hk hcc => ?_, _, List.mem_map.2 ⟨ln, hln, rfl⟩, ⟨[], rfl, trivial⟩, fun i U o u hu => ?_⟩
  · obtain ⟨rfl, hj⟩ := hcc
    rw [hf2] at hk
    cases hk
    rcases hj with rfl | rfl
    · exact .inr (.inl ⟨1, 1, by simp [sg_choose1], by rw [hps], by rw [hps, szF], hf1⟩)
    · exact .inr (.inl ⟨1, 10, by simp [sg_choose1], by rw [hps], by rw [hps, szF], hf1⟩)
  · have hm := Hm.at_mem hu
    simp only [List.mem_cons, List.not_mem_nil, or_false, Prod.mk.injEq] at hm
    obtain ⟨⟨rfl, rfl, rfl⟩, rfl⟩ := hm
    refine ⟨by rw [hps]; exact hfb, by rw [show kd.sz 118 = 18 from szF]; omega, by rw [hps]; exact hrow.mono hc.eff, _, ?_, rfl, hli⟩
    rw [hps, show kd.sz 118 = 18 from szF]
    exact hc.ln
def rank (k : Int) : Nat := if k = 25 then 4 else if k = 24 ∨ k = 26 then 3 else if k = 15 ∨ k = 17 ∨ k = 18 ∨ k = 22 ∨ k = 23 then 2 else if k = 5 ∨ k = 6 then 1 else 0
structure PI (sh : Sh) (T : Nat) (w : World) (rb fb r : Nat) (k c : Int) : Prop where
  c0 : fc w fb r 0 = some (.int .i64 k)
  lo : 0 ≤ k
  hi : k ≤ 26
  rk : rank c < rank k
  clo : 0 ≤ c
  chi : c ≤ 24
  run : k = 24 → ∃ lb n cap t ln, RL w fb r lb n cap t ∧ 0 ≤ t ∧ t < T ∧ fc w fb r 1 = some (.int .i64 ln) ∧ (ln ∈ [6, 7, 8, 9, 14, 20, 21, 22] ∨ (ln = 5 ∧ c = 12 ∧ PcIn w sh.pe rb t.toNat))
  cli : k = 26 → ∃ (i : Nat) (ln : Int), fc w fb r 9 = some (.int .i64 i) ∧ i < slLen (sh.el 10) ∧ fc w fb r 1 = some (.int .i64 ln) ∧ (ln = 3 → c = 12)
def EnterR (sh : Sh) (T : Nat) (B N' : Nat) (w : World) (rb fb r : Nat) (k : Int) (e : Ending) (w' : World) : Prop :=
  ∃ cs ok, e = .returned (.tuple #[.agg cs.toArray, .bool ok]) ∧ WT kd.sig B N' w' ∧ AllOK w' B N' cs_r08_Frame cs ∧ Eff (FCh B w fb r) w w' ∧ (ok = false → ∃ ln, LI T w' sh.pe rb fb r k ln) ∧ (ok = true → ∃ c, cs[0]? = some (.int .i64 c) ∧ PI sh T w' rb fb r k c ∧ (c = 24 → ∃ lb n cap, cs[17]? = some (.slice (some ⟨lb, 0, none⟩) (n + 1) cap) ∧ lb ≠ SBn))
end Go.Proofs.YtncnepmgmphanaaGreatDoor

namespace Go.Proofs.YtncnepmgmphanaaGreatDoor
open Go.RowKit
variable [Inhabited SBW] {sh : Sh} {B N T : Nat} {w w' : World}
theorem IsProg.eq {vp v : Value} {p : Int} (h3 : ∀ pb n cap q, vp = .slice (some ⟨pb, 0, none⟩) n cap → q < n → w'.cell? ⟨pb, q, none⟩ = w.cell? ⟨pb, q, none⟩) : IsProg w vp p v ↔ IsProg w' vp p v := by
  constructor
  · rintro (h | ⟨q, pb, cap, e1, e2, e3, e4⟩)
    · exact .inl h
    · exact .inr ⟨q, pb, cap, e1, e2, e3, by rw [h3 pb _ cap q e3 e2]; exact e4⟩
  · rintro (h | ⟨q, pb, cap, e1, e2, e3, e4⟩)
    · exact .inl h
    · exact .inr ⟨q, pb, cap, e1, e2, e3, by rw [← h3 pb _ cap q e3 e2]; exact e4⟩
theorem PcIn.eq {pe rb t : Nat} (h0 : w'.cell? ⟨rb, t * 7, none⟩ = w.cell? ⟨rb, t * 7, none⟩) (h1 : w'.cell? ⟨rb, t * 7 + 2, none⟩ = w.cell? ⟨rb, t * 7 + 2, none⟩) (h2 : w'.cell? ⟨pe, 9, none⟩ = w.cell? ⟨pe, 9, none⟩) (h3 : ∀ pb n cap q, w.cell? ⟨pe, 9, none⟩ = some (.slice (some ⟨pb, 0, none⟩) n cap) → q < n → w'.cell? ⟨pb, q, none⟩ = w.cell? ⟨pb, q, none⟩) : PcIn w pe rb t ↔ PcIn w' pe rb t := by
  constructor
  · rintro ⟨z, qb, m, mc, p, vp, p2, p0, p9, pv, pz⟩
    exact ⟨z, qb, m, mc, p, vp, h1.trans p2, h0.trans p0, h2.trans p9, (IsProg.eq (w := w) (w' := w') fun pb n cap q hv hq => h3 pb n cap q (by rw [p9, hv]) hq).1 pv, pz⟩
  · rintro ⟨z, qb, m, mc, p, vp, p2, p0, p9, pv, pz⟩
    rw [h1] at p2
    rw [h0] at p0
    rw [h2] at p9
    exact ⟨z, qb, m, mc, p, vp, p2, p0, p9, (IsProg.eq (w := w) (w' := w') fun pb n cap q hv hq => h3 pb n cap q (by rw [p9, hv]) hq).2 pv, pz⟩
def GR (w : World) : World → Prop := fun w' => Eff (fun k U j => (U, j % kd.sz U) ∉ prot2) w w'
theorem gr_gw (h : GR w w') : GW w w' := Eff.mono h fun k U j _ hc hx => hc (by unfold prot2; exact List.mem_append_left _ hx)
theorem safe_GR (w : World) : Safe kd prot2 (GR w) := fun _ _ h g => h.trans g
theorem EE.evR (h : EE sh B N T w) (hw : WT kd.sig B N w) : EvG sh (GR w) := fun q hq => ⟨(h.ev hw q hq).1, fun w' g => (h.ev hw q hq).2 w' (gr_gw g)⟩
theorem prot2_cell {b i : Nat} {c : Array Value} {U : TypeId} {f : Nat × Nat} (g : GR w w') (hb : w.heap[b]? = some (.cells c U f)) (hp : (U, i % kd.sz U) ∈ prot2) : w'.cell? ⟨b, i, none⟩ = w.cell? ⟨b, i, none⟩ := by
  obtain ⟨c', h1, h2, h3⟩ := g.cells _ _ _ _ hb
  rw [cell_blk h1, cell_blk hb, h3 i (fun hx => hx hp)]
theorem use_tca0 {G : World → Prop} {f : FuncId} {s : FSig} {alts : List (AT × Hm)} {fb r : Nat} {args : Array Value} (h : TCa Tryz.prog kd sh B G f s alts) (hG : G w) (hk : s.pre.all (fun e => decide (e.1.1 = 1) && decide (e.1.2.1 = FRT) && decide (e.1.2.2 < 18)) = true) (hlen : args.size = s.ps.length) (hw : WT kd.sig B N w) (hB : B ≤ w.heap.size) (hN : N + s.inc ≤ 68719476736) (hrow : RowIn kd w B FRT fb r) (hp1 : s.ps[1]? = some (.ptr FRT 0 (.par 1))) (ha1 : args[1]? = some (.pointer (some ⟨fb, r * 18, none⟩)))
    (hargs : ∀ (i : Nat) (t : AT), s.ps[i]? = some t → i ≠ 1 → ∃ v, args[i]? = some v ∧ ATok kd (cxOf kd sh s args w) w B N t v) (hpre : ∀ o t, s.pre.at (1, FRT, o) = some t → ∃ u, fc w fb r o = some u ∧ ATok kd (cxOf kd sh s args w) w B N t u) :
    Calls Tryz.prog f args w fun e w' => ∃ v, e = .returned v ∧ WT kd.sig B (N + s.inc) w' ∧ (cxOf kd sh s args w).ps 1 = (fb, r) ∧ Eff (ChOf B kd (cxOf kd sh s args w) s.eff) w w' ∧ ∃ q ∈ alts, ATok kd (cxOf kd sh s args w) w' B (N + s.inc) q.1 v ∧ ∀ o t, q.2.at (1, FRT, o) = some t → ∃ u, fc w' fb r o = some u ∧ ATok kd (cxOf kd sh s args w) w' B (N + s.inc) t u := by
  have hps : (cxOf kd sh s args w).ps 1 = (fb, r) := by
    simp only [cxOf, psOf, hp1, ha1, szF]
    rw [Nat.mul_div_cancel _ (by omega)]
  obtain ⟨fr, hf1, hf2, hf3⟩ := id hrow
  have hfl := lt_of_blk hf2
  refine (h N w args hlen hB hN hw hG (fun i t ht => ?_) (fun i U o t ht => ?_)).mono ?_
  · by_cases hi : i = 1
    · subst hi
      rw [hp1] at ht
      cases ht
      exact ⟨_, ha1, fb, r, by rw [szF]; rfl, by rw [szF]; omega, hrow, hps, hfl⟩
    · exact hargs i t ht hi
  · have hm := List.all_eq_true.1 hk _ (Hm.at_mem ht)
    simp only [Bool.and_eq_true, decide_eq_true_eq] at hm
    obtain ⟨⟨rfl, rfl⟩, ho⟩ := hm
    obtain ⟨u, hu1, hu2⟩ := hpre o t ht
    exact ⟨by rw [hps]; exact hfl, by rw [szF]; exact ho, by rw [hps]; exact hrow, u, by rw [hps, szF]; exact hu1, hu2⟩
  · rintro e w' ⟨v, rfl, g1, g2, q, hq, g3, g4⟩
    refine ⟨v, rfl, g1, hps, g2, q, hq, g3, fun o t ht => ?_⟩
    obtain ⟨-, -, -, u, k1, k2⟩ := g4 1 FRT o t ht
    rw [hps, szF] at k1
    exact ⟨u, k1, k2⟩
theorem tup_frame {cx : Cx} {N' : Nat} {ks : List Int} {b : VK} {v : Value} (h : ATok kd cx w B N' (.tup [.ak cs_r08_Frame ks, b]) v) (hb : b = .c .bool ∨ ∃ x, b = .bk x) : ∃ cs ok, v = .tuple #[.agg cs.toArray, .bool ok] ∧ AllOK w B N' cs_r08_Frame cs ∧ (∃ c ∈ ks, cs[0]? = some (.int .i64 c)) ∧ (∀ x, b = .bk x → ok = x) := by
  obtain ⟨xs, rfl, hx⟩ := h
  match xs, hx with
  | [a1, a2], hx =>
    obtain ⟨⟨cs, rfl, ha, n, hn, hh⟩, h2, -⟩ := hx
    have hi : ∃ k, cs[0]? = some (.int .i64 k) := by
      match cs, ha with
      | c1 :: cs', ha => obtain ⟨k, rfl, -⟩ := ha.1; exact ⟨k, rfl⟩
    obtain ⟨k, hk⟩ := hi
    have hkn : cs[0]? = some (.int .i64 n) := by
      rcases hh with hh | hh
      · exact hh
      · rw [hk] at hh; cases hh
    rcases hb with rfl | ⟨x, rfl⟩
    · obtain ⟨ok, rfl⟩ := h2
      exact ⟨cs, ok, rfl, ha, ⟨n, hn, hkn⟩, fun x hx => by cases hx⟩
    · have : a2 = .bool x := h2
      subst this
      exact ⟨cs, x, rfl, ha, ⟨n, hn, hkn⟩, fun y hy => by cases hy; rfl⟩
  | [], hx => exact hx.elim
  | [_], hx => exact hx.2.elim
  | _ :: _ :: _ :: _, hx => exact hx.2.2.elim
theorem enter24_1 {fb r lb n cap rb cr : Nat} {t : Int} (h : At sh B N T w fb r) (c0 : fc w fb r 0 = some (.int .i64 24)) (c1 : fc w fb r 1 = some (.int .i64 1)) (rl : RL w fb r lb n cap t) (hrb : sh.el 19 = .slice (some ⟨rb, 0, none⟩) T cr) :
    Calls Tryz.prog 66 #[.pointer (some ⟨sh.pe, 0, none⟩), .pointer (some ⟨fb, r * 18, none⟩)] w fun e w' => EnterR sh T B N w rb fb r 24 e w' := by
  have hNN : N ≤ 68719476736 := by have := h.nn; omega
  have o17 := fc_sl h.wt h.row rl.l
  have o19 := h.ee.o19
  rw [hrb] at o19
  obtain ⟨f, hf1, hF, hf3⟩ := id h.row
  obtain ⟨e, he1, hEb, he3⟩ := id h.ee.blk
  rcases sl_blk o19 with hx | ⟨b, n', c, cur, hx, hb1, hb2, hb3, hb4, hb5⟩
  · cases hx
  cases hx
  let sh' := shL sh (.slice (some ⟨lb, 0, none⟩) (n + 1) cap) (.slice none 0 0)
  have hs := h.ee.shL (.slice (some ⟨lb, 0, none⟩) (n + 1) cap) (.slice none 0 0)
  have e9 : w.cell? ⟨sh.pe, 9, none⟩ = some (sh.el 9) := h.ee.el 9 (by decide)
  -- the counter, where the records stand
  have pceq : ∀ w', (∀ b i, (∃ c U, w.heap[b]? = some (.cells c U (0, 0)) ∧ (U, i % kd.sz U) ∈ prot2) → w'.cell? ⟨b, i, none⟩ = w.cell? ⟨b, i, none⟩) → (PcIn w sh.pe rb t.toNat ↔ PcIn w' sh.pe rb t.toNat) := fun w' hc => by
    have szR : kd.sz 137 = 7 := by kernel_rfl
    refine PcIn.eq (hc _ _ ⟨_, _, hb2, by rw [szR, show t.toNat * 7 % 7 = 0 by omega]; decide⟩) (hc _ _ ⟨_, _, hb2, by rw [szR, show (t.toNat * 7 + 2) % 7 = 2 by omega]; decide⟩) (hc _ _ ⟨_, _, hEb, by rw [szE]; decide⟩) (fun pb n' cap' q hv hq => ?_)
    rw [e9] at hv
    have o9 := h.ee.o9
    cases hv' : sh.el 9 with
    | slice ao a b =>
      rw [hv'] at hv o9
      cases hv
      rcases sl_blk o9 with hx | ⟨b, n', c, cur, hx, k1, k2, k3, k4, k5⟩
      · cases hx
      cases hx
      exact hc _ _ ⟨_, _, k2, by rw [show kd.sz 123 = 1 by kernel_rfl, Nat.mod_one]; decide⟩
    | _ => rw [hv'] at hv; cases hv
  have main : ∀ (l : List Int), TCa Tryz.prog kd sh' B (GR w) 66 sg_entA1 (altEn l) → (∀ ln ∈ l, (ln = 23 ∨ (ln ∈ [2, 3, 4, 5, 10, 17] ∧ 0 ≤ t ∧ t < T ∧ ((ln = 3 ∨ ln = 5) → PcIn w sh.pe rb t.toNat)))) → Calls Tryz.prog 66 #[.pointer (some ⟨sh.pe, 0, none⟩), .pointer (some ⟨fb, r * 18, none⟩)] w fun e w' => EnterR sh T B N w rb fb r 24 e w' := fun l ht hl => by
    refine (use_tca0 (fb := fb) (r := r) ht (Eff.refl _ w) (by decide) rfl h.wt h.bw (by show N + 0 ≤ _; omega) h.row rfl rfl (args2_ok h.ee rfl rfl) (fun o t' ht' => ?_)).mono ?_
    · have hm := Hm.at_mem ht'
      simp only [sg_entA1, List.mem_cons, List.not_mem_nil, or_false, Prod.mk.injEq] at hm
      rcases hm with ⟨⟨-, -, rfl⟩, rfl⟩ | ⟨⟨-, -, rfl⟩, rfl⟩ | ⟨⟨-, -, rfl⟩, rfl⟩
      · exact ⟨_, c0, rfl, i64_in (by omega)⟩
      · exact ⟨_, c1, rfl, i64_in (by omega)⟩
      · exact ⟨_, rl.l, rfl⟩
    · rintro e w' ⟨v, rfl, g1, hps, g2, q, hq, g3, g4⟩
      obtain ⟨ln, hln, rfl⟩ := List.mem_map.1 hq
      have hfe := feff (w := w) (by decide) rfl hps g2
      have c0' : fc w' fb r 0 = some (.int .i64 24) := by rw [fc_keep hF hfe (.inl rfl) (.inl rfl)]; exact c0
      have hnp := feff_np hF hfe
      obtain ⟨u, hu, hu2⟩ := g4 1 (.kon .i64 ln) rfl
      rw [hu2.1] at hu
      -- the stack
      have hl17 : fc w' fb r 17 = some (.slice (some ⟨lb, 0, none⟩) (n + 1) cap) := by
        obtain ⟨c', k1, k2, k3⟩ := g2.cells _ _ _ _ hF
        unfold fc
        rw [cell_blk k1, k3, ← cell_blk hF]
        · exact rl.l
        · have := lt_of_blk hF
          rintro (hx | ⟨i, o, hm, hx, hy, -⟩ | ⟨o, hm, hy, -⟩)
          · simp only [cxOf] at hx; omega
          · simp only [sg_entA1, List.mem_cons, List.not_mem_nil, or_false, EI.par.injEq] at hm
            rcases hm with ⟨rfl, -, rfl⟩ | ⟨rfl, -, rfl⟩ <;> rw [hps, szF] at hy <;> simp only at hy <;> omega
          · simp [sg_entA1] at hm
      have rl' : RL w' fb r lb n cap t := ⟨hl17, sl_keep o17 hnp rl.t, rl.ne⟩
      have pcw : PcIn w sh.pe rb t.toNat → PcIn w' sh.pe rb t.toNat := (pceq w' (fun b i ⟨c, U, hb, hp⟩ => by
        obtain ⟨c', k1, k2, k3⟩ := g2.cells _ _ _ _ hb
        rw [cell_blk k1, cell_blk hb, k3]
        have := lt_of_blk hb
        rintro (hx | ⟨i', o, hm, hx, hy, -⟩ | ⟨o, hm, hy, -⟩)
        · simp only [cxOf] at hx; omega
        · have hfr : U = FRT := by
            simp only [sg_entA1, List.mem_cons, List.not_mem_nil, or_false, EI.par.injEq] at hm
            rcases hm with ⟨-, rfl, -⟩ | ⟨-, rfl, -⟩ <;> rfl
          subst hfr
          have : ∀ q, (FRT, q) ∉ prot2 := fun q hq => by simp [prot2, prot, FRT] at hq
          exact this _ hp
        · simp [sg_entA1] at hm)).1
      have hfacts := hl ln hln
      by_cases h5 : ln = 5
      · subst h5
        simp only [if_true] at g3
        obtain ⟨cs, ok, rfl, ha, ⟨c, hc, hcs⟩, hok⟩ := tup_frame g3 (.inr ⟨_, rfl⟩)
        simp only [List.mem_singleton] at hc
        subst hc
        obtain rfl := hok _ rfl
        rcases hfacts with hx | ⟨-, ht0, htT, hpc⟩
        · omega
        refine ⟨cs, true, rfl, g1, ha, hfe, (fun hx => by cases hx), fun _ => ⟨12, hcs, ⟨c0', by omega, by omega, by decide, by omega, by omega, fun _ => ⟨lb, n, cap, t, 5, rl', ht0, htT, hu, .inr ⟨rfl, rfl, pcw (hpc (.inr rfl))⟩⟩, fun hx => by omega⟩, fun hx => by omega⟩⟩
      · simp only [if_neg h5] at g3
        obtain ⟨cs, ok, rfl, ha, -, hok⟩ := tup_frame g3 (.inr ⟨_, rfl⟩)
        obtain rfl := hok _ rfl
        refine ⟨cs, false, rfl, g1, ha, hfe, fun _ => ⟨ln, c0', hu, by omega, by omega, fun _ => ⟨lb, n, cap, t, rl', ?_⟩, fun hx => by omega⟩, fun hx => by cases hx⟩
        rcases hfacts with hx | ⟨hm, ht0, htT, hpc⟩
        · exact .inl hx
        · refine .inr ⟨?_, ht0, htT, fun h3 => pcw (hpc (.inl h3))⟩
          simp only [leafL, List.mem_cons, List.not_mem_nil, or_false] at hm ⊢
          omega
  have hEE : ∀ w', GR w w' → ∃ N', EE sh' B N' T w' := fun w' g => ⟨N, hs.mono h.wt (gr_gw g) (Nat.le_refl _)⟩
  have hlt : ∀ w', GR w w' → w'.cell? ⟨lb, n, none⟩ = some (.int .i64 t) := fun w' g => sl_keep o17 (gr_gw g) rl.t
  by_cases hA : t < 0 ∨ (T : Int) ≤ t
  · refine main [23] (tca_enter1O (hs.evR h.wt) (safe_GR w) (tca_choose1 hEE hrb rfl hlt fun w' ln g hx => ?_)) (fun ln hm => .inl (by simpa using hm))
    rcases hx with ⟨rfl, -⟩ | ⟨-, h0, h1, -⟩
    · simp
    · omega
  by_cases hP : PcIn w sh.pe rb t.toNat
  · refine main [2, 3, 4, 5, 10, 17] (tca_enter1A (hs.evR h.wt) (safe_GR w) (tca_choose1 hEE hrb rfl hlt fun w' ln g hx => ?_)) (fun ln hm => .inr ⟨hm, by omega, by omega, fun _ => hP⟩)
    rcases hx with ⟨-, hx⟩ | ⟨hm, -⟩
    · exact absurd hx hA
    · exact hm
  · refine main [2, 4, 10, 17] (tca_enter1N (hs.evR h.wt) (safe_GR w) (tca_choose1 hEE hrb rfl hlt fun w' ln g hx => ?_)) (fun ln hm => .inr ⟨?_, by omega, by omega, fun h35 => ?_⟩)
    · rcases hx with ⟨-, hx⟩ | ⟨hm, -, -, hpc⟩
      · exact absurd hx hA
      · have hn : ¬ (ln = 3 ∨ ln = 5) := fun h35 => hP ((pceq w' (fun b i ⟨c, U, hb, hp⟩ => prot2_cell g hb hp)).2 (hpc h35))
        simp only [List.mem_cons, List.not_mem_nil, or_false] at hm ⊢
        omega
    · simp only [List.mem_cons, List.not_mem_nil, or_false] at hm ⊢
      omega
    · simp only [List.mem_cons, List.not_mem_nil, or_false] at hm
      omega
end Go.Proofs.YtncnepmgmphanaaGreatDoor
