/- Enter of a Run frame at its first line, by types. No condition beside those named. -/
import Derived.Test.YtncnepmgmphanaaGreatDoorMg13
set_option linter.unusedVariables false
set_option linter.unusedSimpArgs false
set_option linter.unusedSectionVars false
namespace Go.Proofs.YtncnepmgmphanaaGreatDoor
section
open Go.RowKit
variable [Inhabited cK] {sh : Sh} {B N T : Nat} {w w' : World}
theorem uw {G : World → Prop} {lb n cap rb cr : Nat} {t : Int} {l : List Int} (hE : ∀ w', G w' → ∃ N', EE sh B N' T w') (hrb : sh.el 19 = .slice (some ⟨rb, 0, none⟩) T cr) (v0 : sh.vals 0 = .slice (some ⟨lb, 0, none⟩) (n + 1) cap) (hlt : ∀ w', G w' → w'.cell? ⟨lb, n, none⟩ = some (.int .i64 t))
   (hl : ∀ w' ln, G w' → ((ln = 23 ∧ (t < 0 ∨ (T : Int) ≤ t)) ∨ (ln ∈ [2, 3, 4, 5, 10, 17] ∧ 0 ≤ t ∧ t < T ∧ ((ln = 3 ∨ ln = 5) → iQ w' sh.pe rb t.toNat))) → ln ∈ l) : aV Tryz.prog kd sh B G 132 iO (vO l) := by
 intro N w args ha hB hN hw hG hp hpre
 have fM : N ≤ 68719476736 := by simpa [iO] using hN
 obtain ⟨a, b, rfl⟩ := Az ha
 obtain ⟨pb, pr, ea, -, -, hpb, hpr⟩ := eu hp (i := 0) rfl rfl
 have aeB : pb = sh.pe := hpb
 clear hpb
 subst aeB
 subst hpr
 obtain rfl := ea
 obtain ⟨fb, r, rfl, -, hrow, hps, dO⟩ := eu hp (i := 1) rfl rfl
 obtain ⟨-, -, -, u1, h1, h1'⟩ := hpre 1 bT 1 (.aN .i64 1) rfl
 obtain ⟨-, -, -, u2, h2, h2'⟩ := hpre 1 bT 17 (.val 0) rfl
 rw [hps, dR] at h1 h2
 rw [h1'.1] at h1
 have akJ : u2 = sh.vals 0 := h2'
 rw [akJ, v0] at h2
 obtain ⟨f, hf1, hf2, hf3⟩ := id hrow
 have hf3 : (r + 1) * 18 ≤ f.size := by
   have := hf3
   rw [show kd.sz 118 = 18 from dR] at this
   exact this
 obtain ⟨N', ee⟩ := hE w hG
 obtain ⟨e, he1, he2, M9⟩ := ee.blk
 have M9 : 21 ≤ e.size := by rw [uT] at M9; omega
 have eqa : (#[Value.pointer (some ⟨sh.pe, 0 * kd.sz 66 + 0, none⟩), Value.pointer (some ⟨fb, r * kd.sz 118 + 0, none⟩)] : Array Value) = #[.pointer (some ⟨sh.pe, 0, none⟩), .pointer (some ⟨fb, r * 18, none⟩)] := by
   rw [show kd.sz 118 = 18 from dR]; simp
 have c1 := ade (B := B) w sh.pe fb r lb n cap rb T cr (sh.el 9) t T f fM hw hB hf2 hf1 hf3 e he2 he1 M9 h1 h2 (hlt w hG) ee.tasks (ee.el 9 (by decide)) (by rw [← hrb]; exact ee.el 19 (by decide)) rfl ee.Fz
 have c2 : Calls Tryz.prog 132 #[Value.pointer (some ⟨sh.pe, 0 * kd.sz 66 + 0, none⟩), Value.pointer (some ⟨fb, r * kd.sz 118 + 0, none⟩)] w fun e w' => e = .returned (.tuple #[]) ∧ ∃ ln : Int, lN B N w w' fb (r * 18) ln ∧ bB .i64 ln ∧ ln ∈ l := by
   rw [eqa]
   refine c1.mono ?_
   rintro e w' ⟨rfl, ln, hc, hx⟩
   refine ⟨rfl, ln, hc, ?_, hl w ln hG hx⟩
   rcases hx with ⟨rfl, -⟩ | ⟨hm, -⟩
   · exact i64_in (by omega)
   · simp only [List.mem_cons, List.not_mem_nil, or_false] at hm
     exact i64_in (by omega)
 refine c2.mono ?_
 rintro e w' ⟨rfl, ln, hc, hli, hln⟩
 refine ⟨_, rfl, hc.wt, hc.aS.iI fun k c U f' j hk hcc => ?_, _, List.mem_map.2 ⟨ln, hln, rfl⟩, ⟨[], rfl, trivial⟩, fun i U o u hu => ?_⟩
 · obtain ⟨rfl, hj⟩ := hcc
   rw [hf2] at hk
   cases hk
   rcases hj with rfl | rfl
   · exact .inr (.inl ⟨1, 1, by simp [iO], by rw [hps], by rw [hps, dR], hf1⟩)
   · exact .inr (.inl ⟨1, 10, by simp [iO], by rw [hps], by rw [hps, dR], hf1⟩)
 · have hm := Hm.at_mem hu
   simp only [List.mem_cons, List.not_mem_nil, or_false, Prod.mk.injEq] at hm
   obtain ⟨⟨rfl, rfl, rfl⟩, rfl⟩ := hm
   refine ⟨by rw [hps]; exact dO, by rw [show kd.sz 118 = 18 from dR]; omega, by rw [hps]; exact hrow.mono hc.aS, _, ?_, rfl, hli⟩
   rw [hps, show kd.sz 118 = 18 from dR]
   exact hc.ln
def rank (k : Int) : Nat := if k = 25 then 4 else if k = 24 ∨ k = 26 then 3 else if k = 15 ∨ k = 17 ∨ k = 18 ∨ k = 22 ∨ k = 23 then 2 else if k = 5 ∨ k = 6 then 1 else 0
structure PI (sh : Sh) (T : Nat) (w : World) (rb fb r : Nat) (k c : Int) : Prop where
 c0 : fc w fb r 0 = some (.int .i64 k)
 lo : 0 ≤ k
 hi : k ≤ 26
 rk : rank c < rank k
 clo : 0 ≤ c
 Uj : c ≤ 24
 run : k = 24 → ∃ lb n cap t ln, RL w fb r lb n cap t ∧ 0 ≤ t ∧ t < T ∧ fc w fb r 1 = some (.int .i64 ln) ∧ (ln ∈ [6, 7, 8, 9, 14, 20, 21, 22] ∨ (ln = 5 ∧ c = 12 ∧ iQ w sh.pe rb t.toNat))
 vk : k = 26 → ∃ (i : Nat) (ln : Int), fc w fb r 9 = some (.int .i64 i) ∧ i < bO (sh.el 10) ∧ fc w fb r 1 = some (.int .i64 ln) ∧ (ln = 3 → c = 12)
def mJ (sh : Sh) (T : Nat) (B N' : Nat) (w : World) (rb fb r : Nat) (k : Int) (e : Ending) (w' : World) : Prop :=
 ∃ cs ok, e = .returned (.tuple #[.agg cs.toArray, .bool ok]) ∧ WT kd.sig B N' w' ∧ bJ w' B N' ax cs ∧ Eff (lT B w fb r) w w' ∧ (ok = false → ∃ ln, LI T w' sh.pe rb fb r k ln) ∧ (ok = true → ∃ c, cs[0]? = some (.int .i64 c) ∧ PI sh T w' rb fb r k c ∧ (c = 24 → ∃ lb n cap, cs[17]? = some (.slice (some ⟨lb, 0, none⟩) (n + 1) cap) ∧ lb ≠ uO))
end
section
open Go.RowKit
variable [Inhabited cK] {sh : Sh} {B N T : Nat} {w w' : World}
theorem eG.eq {vp v : Value} {p : Int} (h3 : ∀ pb n cap q, vp = .slice (some ⟨pb, 0, none⟩) n cap → q < n → w'.cell? ⟨pb, q, none⟩ = w.cell? ⟨pb, q, none⟩) : eG w vp p v ↔ eG w' vp p v := by
 constructor
 · rintro (h | ⟨q, pb, cap, e1, e2, e3, e4⟩)
   · exact .inl h
   · exact .inr ⟨q, pb, cap, e1, e2, e3, by rw [h3 pb _ cap q e3 e2]; exact e4⟩
 · rintro (h | ⟨q, pb, cap, e1, e2, e3, e4⟩)
   · exact .inl h
   · exact .inr ⟨q, pb, cap, e1, e2, e3, by rw [← h3 pb _ cap q e3 e2]; exact e4⟩
theorem iQ.eq {pe rb t : Nat} (h0 : w'.cell? ⟨rb, t * 7, none⟩ = w.cell? ⟨rb, t * 7, none⟩) (h1 : w'.cell? ⟨rb, t * 7 + 2, none⟩ = w.cell? ⟨rb, t * 7 + 2, none⟩) (h2 : w'.cell? ⟨pe, 9, none⟩ = w.cell? ⟨pe, 9, none⟩) (h3 : ∀ pb n cap q, w.cell? ⟨pe, 9, none⟩ = some (.slice (some ⟨pb, 0, none⟩) n cap) → q < n → w'.cell? ⟨pb, q, none⟩ = w.cell? ⟨pb, q, none⟩) : iQ w pe rb t ↔ iQ w' pe rb t := by
 constructor
 · rintro ⟨z, qb, m, mc, p, vp, p2, p0, p9, pv, pz⟩
   exact ⟨z, qb, m, mc, p, vp, h1.trans p2, h0.trans p0, h2.trans p9, (eG.eq (w := w) (w' := w') fun pb n cap q hv hq => h3 pb n cap q (by rw [p9, hv]) hq).1 pv, pz⟩
 · rintro ⟨z, qb, m, mc, p, vp, p2, p0, p9, pv, pz⟩
   rw [h1] at p2
   rw [h0] at p0
   rw [h2] at p9
   exact ⟨z, qb, m, mc, p, vp, p2, p0, p9, (eG.eq (w := w) (w' := w') fun pb n cap q hv hq => h3 pb n cap q (by rw [p9, hv]) hq).2 pv, pz⟩
def GR (w : World) : World → Prop := fun w' => Eff (fun k U j => (U, j % kd.sz U) ∉ eB) w w'
theorem VX (h : GR w w') : GW w w' := Eff.mono h fun k U j _ hc hx => hc (by unfold eB; exact List.mem_append_left _ hx)
theorem Iu (w : World) : Safe kd eB (GR w) := fun _ _ h g => h.trans g
theorem EE.evR (h : EE sh B N T w) (hw : WT kd.sig B N w) : aG sh (GR w) := fun q hq => ⟨(h.ev hw q hq).1, fun w' g => (h.ev hw q hq).2 w' (VX g)⟩
theorem Ey {b i : Nat} {c : Array Value} {U : TypeId} {f : Nat × Nat} (g : GR w w') (hb : w.heap[b]? = some (.cells c U f)) (hp : (U, i % kd.sz U) ∈ eB) : w'.cell? ⟨b, i, none⟩ = w.cell? ⟨b, i, none⟩ := by
 obtain ⟨c', h1, h2, h3⟩ := g.cells _ _ _ _ hb
 rw [aa h1, aa hb, h3 i (fun hx => hx hp)]
theorem tH {G : World → Prop} {f : FuncId} {s : aj} {alts : List (AT × Hm)} {fb r : Nat} {args : Array Value} (h : aV Tryz.prog kd sh B G f s alts) (hG : G w) (hk : s.pre.all (fun e => decide (e.1.1 = 1) && decide (e.1.2.1 = bT) && decide (e.1.2.2 < 18)) = true) (hlen : args.size = s.ps.length) (hw : WT kd.sig B N w) (hB : B ≤ w.heap.size) (hN : N + s.inc ≤ 68719476736) (hrow : eO kd w B bT fb r) (hp1 : s.ps[1]? = some (.ptr bT 0 (.par 1))) (ha1 : args[1]? = some (.pointer (some ⟨fb, r * 18, none⟩)))
   (hargs : ∀ (i : Nat) (t : AT), s.ps[i]? = some t → i ≠ 1 → ∃ v, args[i]? = some v ∧ bD kd (bQ kd sh s args w) w B N t v) (hpre : ∀ o t, s.pre.at (1, bT, o) = some t → ∃ u, fc w fb r o = some u ∧ bD kd (bQ kd sh s args w) w B N t u) :
   Calls Tryz.prog f args w fun e w' => ∃ v, e = .returned v ∧ WT kd.sig B (N + s.inc) w' ∧ (bQ kd sh s args w).ps 1 = (fb, r) ∧ Eff (dC B kd (bQ kd sh s args w) s.aS) w w' ∧ ∃ q ∈ alts, bD kd (bQ kd sh s args w) w' B (N + s.inc) q.1 v ∧ ∀ o t, q.2.at (1, bT, o) = some t → ∃ u, fc w' fb r o = some u ∧ bD kd (bQ kd sh s args w) w' B (N + s.inc) t u := by
 have hps : (bQ kd sh s args w).ps 1 = (fb, r) := by
   simp only [bQ, l8, hp1, ha1, dR]
   rw [Nat.mul_div_cancel _ (by omega)]
 obtain ⟨fr, hf1, hf2, hf3⟩ := id hrow
 have hfl := aK hf2
 refine (h N w args hlen hB hN hw hG (fun i t ht => ?_) (fun i U o t ht => ?_)).mono ?_
 · by_cases hi : i = 1
   · subst hi
     rw [hp1] at ht
     cases ht
     exact ⟨_, ha1, fb, r, by rw [dR]; rfl, by rw [dR]; omega, hrow, hps, hfl⟩
   · exact hargs i t ht hi
 · have hm := List.all_eq_true.1 hk _ (Hm.at_mem ht)
   simp only [Bool.and_eq_true, decide_eq_true_eq] at hm
   obtain ⟨⟨rfl, rfl⟩, ho⟩ := hm
   obtain ⟨u, hu1, hu2⟩ := hpre o t ht
   exact ⟨by rw [hps]; exact hfl, by rw [dR]; exact ho, by rw [hps]; exact hrow, u, by rw [hps, dR]; exact hu1, hu2⟩
 · rintro e w' ⟨v, rfl, g1, g2, q, hq, g3, g4⟩
   refine ⟨v, rfl, g1, hps, g2, q, hq, g3, fun o t ht => ?_⟩
   obtain ⟨-, -, -, u, k1, k2⟩ := g4 1 bT o t ht
   rw [hps, dR] at k1
   exact ⟨u, k1, k2⟩
theorem oG {cx : Cx} {N' : Nat} {ks : List Int} {b : VK} {v : Value} (h : bD kd cx w B N' (.bX [.ak ax ks, b]) v) (hb : b = .c .bool ∨ ∃ x, b = .bk x) : ∃ cs ok, v = .tuple #[.agg cs.toArray, .bool ok] ∧ bJ w B N' ax cs ∧ (∃ c ∈ ks, cs[0]? = some (.int .i64 c)) ∧ (∀ x, b = .bk x → ok = x) := by
 obtain ⟨xs, rfl, hx⟩ := h
 match xs, hx with
 | [a1, a2], hx =>
   obtain ⟨⟨cs, rfl, ha, n, hn, hh⟩, h2, -⟩ := hx
   have hi : ∃ k, cs[0]? = some (.int .i64 k) := by
     match cs, ha with
     | c1 :: cs', ha => obtain ⟨k, rfl, -⟩ := ha.1; exact ⟨k, rfl⟩
   obtain ⟨k, hk⟩ := hi
   have hkn : cs[0]? = some (.int .i64 n) := by
     rcases hh with hh | hh
     · exact hh
     · rw [hk] at hh; cases hh
   rcases hb with rfl | ⟨x, rfl⟩
   · obtain ⟨ok, rfl⟩ := h2
     exact ⟨cs, ok, rfl, ha, ⟨n, hn, hkn⟩, fun x hx => by cases hx⟩
   · have : a2 = .bool x := h2
     subst this
     exact ⟨cs, x, rfl, ha, ⟨n, hn, hkn⟩, fun y hy => by cases hy; rfl⟩
 | [], hx => exact hx.elim
 | [_], hx => exact hx.2.elim
 | _ :: _ :: _ :: _, hx => exact hx.2.2.elim
theorem abO {fb r lb n cap rb cr : Nat} {t : Int} (h : At sh B N T w fb r) (c0 : fc w fb r 0 = some (.int .i64 24)) (c1 : fc w fb r 1 = some (.int .i64 1)) (rl : RL w fb r lb n cap t) (hrb : sh.el 19 = .slice (some ⟨rb, 0, none⟩) T cr) :
   Calls Tryz.prog 66 #[.pointer (some ⟨sh.pe, 0, none⟩), .pointer (some ⟨fb, r * 18, none⟩)] w fun e w' => mJ sh T B N w rb fb r 24 e w' := by
 have fM : N ≤ 68719476736 := by have := h.nn; omega
 have mZ := qM h.wt h.row rl.l
 have mY := h.ee.mY
 rw [hrb] at mY
 obtain ⟨f, hf1, hF, hf3⟩ := id h.row
 obtain ⟨e, he1, Mr, M9⟩ := id h.ee.blk
 rcases df mY with hx | ⟨b, n', c, cur, hx, hb1, hb2, hb3, hb4, hb5⟩
 · cases hx
 cases hx
 let sh' := kL sh (.slice (some ⟨lb, 0, none⟩) (n + 1) cap) (.slice none 0 0)
 have hs := h.ee.kL (.slice (some ⟨lb, 0, none⟩) (n + 1) cap) (.slice none 0 0)
 have e9 : w.cell? ⟨sh.pe, 9, none⟩ = some (sh.el 9) := h.ee.el 9 (by decide)
 -- the counter, where the records stand
 have aij : ∀ w', (∀ b i, (∃ c U, w.heap[b]? = some (.cells c U (0, 0)) ∧ (U, i % kd.sz U) ∈ eB) → w'.cell? ⟨b, i, none⟩ = w.cell? ⟨b, i, none⟩) → (iQ w sh.pe rb t.toNat ↔ iQ w' sh.pe rb t.toNat) := fun w' hc => by
   have M8 : kd.sz 137 = 7 := by kernel_rfl
   refine iQ.eq (hc _ _ ⟨_, _, hb2, by rw [M8, show t.toNat * 7 % 7 = 0 by omega]; decide⟩) (hc _ _ ⟨_, _, hb2, by rw [M8, show (t.toNat * 7 + 2) % 7 = 2 by omega]; decide⟩) (hc _ _ ⟨_, _, Mr, by rw [uT]; decide⟩) (fun pb n' cap' q hv hq => ?_)
   rw [e9] at hv
   have o9 := h.ee.o9
   cases hv' : sh.el 9 with
   | slice ao a b =>
     rw [hv'] at hv o9
     cases hv
     rcases df o9 with hx | ⟨b, n', c, cur, hx, k1, k2, k3, k4, k5⟩
     · cases hx
     cases hx
     exact hc _ _ ⟨_, _, k2, by rw [show kd.sz 123 = 1 by kernel_rfl, Nat.mod_one]; decide⟩
   | _ => rw [hv'] at hv; cases hv
 have main : ∀ (l : List Int), aV Tryz.prog kd sh' B (GR w) 66 iV (mU l) → (∀ ln ∈ l, (ln = 23 ∨ (ln ∈ [2, 3, 4, 5, 10, 17] ∧ 0 ≤ t ∧ t < T ∧ ((ln = 3 ∨ ln = 5) → iQ w sh.pe rb t.toNat)))) → Calls Tryz.prog 66 #[.pointer (some ⟨sh.pe, 0, none⟩), .pointer (some ⟨fb, r * 18, none⟩)] w fun e w' => mJ sh T B N w rb fb r 24 e w' := fun l ht hl => by
   refine (tH (fb := fb) (r := r) ht (Eff.refl _ w) (by decide) rfl h.wt h.bw (by show N + 0 ≤ _; omega) h.row rfl rfl (dM h.ee rfl rfl) (fun o t' ht' => ?_)).mono ?_
   · have hm := Hm.at_mem ht'
     simp only [iV, List.mem_cons, List.not_mem_nil, or_false, Prod.mk.injEq] at hm
     rcases hm with ⟨⟨-, -, rfl⟩, rfl⟩ | ⟨⟨-, -, rfl⟩, rfl⟩ | ⟨⟨-, -, rfl⟩, rfl⟩
     · exact ⟨_, c0, rfl, i64_in (by omega)⟩
     · exact ⟨_, c1, rfl, i64_in (by omega)⟩
     · exact ⟨_, rl.l, rfl⟩
   · rintro e w' ⟨v, rfl, g1, hps, g2, q, hq, g3, g4⟩
     obtain ⟨ln, hln, rfl⟩ := List.mem_map.1 hq
     have hfe := IE (w := w) (by decide) rfl hps g2
     have c0' : fc w' fb r 0 = some (.int .i64 24) := by rw [qx hF hfe (.inl rfl) (.inl rfl)]; exact c0
     have jq := rZ hF hfe
     obtain ⟨u, hu, hu2⟩ := g4 1 (.aN .i64 ln) rfl
     rw [hu2.1] at hu
     -- the stack
     have ak2 : fc w' fb r 17 = some (.slice (some ⟨lb, 0, none⟩) (n + 1) cap) := by
       obtain ⟨c', k1, k2, k3⟩ := g2.cells _ _ _ _ hF
       unfold fc
       rw [aa k1, k3, ← aa hF]
       · exact rl.l
       · have := aK hF
         rintro (hx | ⟨i, o, hm, hx, hy, -⟩ | ⟨o, hm, hy, -⟩)
         · simp only [bQ] at hx; omega
         · simp only [iV, List.mem_cons, List.not_mem_nil, or_false, EI.par.injEq] at hm
           rcases hm with ⟨rfl, -, rfl⟩ | ⟨rfl, -, rfl⟩ <;> rw [hps, dR] at hy <;> simp only at hy <;> omega
         · simp [iV] at hm
     have rl' : RL w' fb r lb n cap t := ⟨ak2, l7 mZ jq rl.t, rl.ne⟩
     have pcw : iQ w sh.pe rb t.toNat → iQ w' sh.pe rb t.toNat := (aij w' (fun b i ⟨c, U, hb, hp⟩ => by
       obtain ⟨c', k1, k2, k3⟩ := g2.cells _ _ _ _ hb
       rw [aa k1, aa hb, k3]
       have := aK hb
       rintro (hx | ⟨i', o, hm, hx, hy, -⟩ | ⟨o, hm, hy, -⟩)
       · simp only [bQ] at hx; omega
       · have hfr : U = bT := by
           simp only [iV, List.mem_cons, List.not_mem_nil, or_false, EI.par.injEq] at hm
           rcases hm with ⟨-, rfl, -⟩ | ⟨-, rfl, -⟩ <;> rfl
         subst hfr
         have : ∀ q, (bT, q) ∉ eB := fun q hq => by simp [eB, ae, bT] at hq
         exact this _ hp
       · simp [iV] at hm)).1
     have Y8 := hl ln hln
     by_cases h5 : ln = 5
     · subst h5
       simp only [if_true] at g3
       obtain ⟨cs, ok, rfl, ha, ⟨c, hc, hcs⟩, hok⟩ := oG g3 (.inr ⟨_, rfl⟩)
       simp only [List.mem_singleton] at hc
       subst hc
       obtain rfl := hok _ rfl
       rcases Y8 with hx | ⟨-, ht0, JC, hpc⟩
       · omega
       refine ⟨cs, true, rfl, g1, ha, hfe, (fun hx => by cases hx), fun _ => ⟨12, hcs, ⟨c0', by omega, by omega, by decide, by omega, by omega, fun _ => ⟨lb, n, cap, t, 5, rl', ht0, JC, hu, .inr ⟨rfl, rfl, pcw (hpc (.inr rfl))⟩⟩, fun hx => by omega⟩, fun hx => by omega⟩⟩
     · simp only [if_neg h5] at g3
       obtain ⟨cs, ok, rfl, ha, -, hok⟩ := oG g3 (.inr ⟨_, rfl⟩)
       obtain rfl := hok _ rfl
       refine ⟨cs, false, rfl, g1, ha, hfe, fun _ => ⟨ln, c0', hu, by omega, by omega, fun _ => ⟨lb, n, cap, t, rl', ?_⟩, fun hx => by omega⟩, fun hx => by cases hx⟩
       rcases Y8 with hx | ⟨hm, ht0, JC, hpc⟩
       · exact .inl hx
       · refine .inr ⟨?_, ht0, JC, fun h3 => pcw (hpc (.inl h3))⟩
         simp only [Lr, List.mem_cons, List.not_mem_nil, or_false] at hm ⊢
         omega
 have hEE : ∀ w', GR w w' → ∃ N', EE sh' B N' T w' := fun w' g => ⟨N, hs.mono h.wt (VX g) (Nat.le_refl _)⟩
 have hlt : ∀ w', GR w w' → w'.cell? ⟨lb, n, none⟩ = some (.int .i64 t) := fun w' g => l7 mZ (VX g) rl.t
 by_cases hA : t < 0 ∨ (T : Int) ≤ t
 · refine main [23] (SF (hs.evR h.wt) (Iu w) (uw hEE hrb rfl hlt fun w' ln g hx => ?_)) (fun ln hm => .inl (by simpa using hm))
   rcases hx with ⟨rfl, -⟩ | ⟨-, h0, h1, -⟩
   · simp
   · omega
 by_cases hP : iQ w sh.pe rb t.toNat
 · refine main [2, 3, 4, 5, 10, 17] (Rw (hs.evR h.wt) (Iu w) (uw hEE hrb rfl hlt fun w' ln g hx => ?_)) (fun ln hm => .inr ⟨hm, by omega, by omega, fun _ => hP⟩)
   rcases hx with ⟨-, hx⟩ | ⟨hm, -⟩
   · exact absurd hx hA
   · exact hm
 · refine main [2, 4, 10, 17] (SY (hs.evR h.wt) (Iu w) (uw hEE hrb rfl hlt fun w' ln g hx => ?_)) (fun ln hm => .inr ⟨?_, by omega, by omega, fun h35 => ?_⟩)
   · rcases hx with ⟨-, hx⟩ | ⟨hm, -, -, hpc⟩
     · exact absurd hx hA
     · have hn : ¬ (ln = 3 ∨ ln = 5) := fun h35 => hP ((aij w' (fun b i ⟨c, U, hb, hp⟩ => Ey g hb hp)).2 (hpc h35))
       simp only [List.mem_cons, List.not_mem_nil, or_false] at hm ⊢
       omega
   · simp only [List.mem_cons, List.not_mem_nil, or_false] at hm ⊢
     omega
   · simp only [List.mem_cons, List.not_mem_nil, or_false] at hm
     omega
end
section
open Go.RowKit
variable [Inhabited cK] {sh : Sh} {B N T : Nat} {w w' : World}
theorem Xj {G : World → Prop} (hev : aG sh G) (hS : Safe kd ae G) {k : Int} (h0 : 0 ≤ k) (h1 : k < 24) :
   ∃ s ks b, aV Tryz.prog kd sh B G 66 s [(s.res, s.post)] ∧ s.ps = [.ptr 66 0 .env, .ptr bT 0 (.par 1)] ∧ s.res = .bX [.ak ax ks, b] ∧ (b = .bk false ∨ (b = .c .bool ∧ ∀ c ∈ ks, rank c < rank k ∧ 0 ≤ c ∧ c < 24)) ∧ s.pre = [((1, bT, 0), .aN .i64 k)] ∧ s.aS = [] ∧ s.inc = 0 := by
 rcases (show k = 0 ∨ k = 1 ∨ k = 2 ∨ k = 3 ∨ k = 4 ∨ k = 5 ∨ k = 6 ∨ k = 7 ∨ k = 8 ∨ k = 9 ∨ k = 10 ∨ k = 11 ∨ k = 12 ∨ k = 13 ∨ k = 14 ∨ k = 15 ∨ k = 16 ∨ k = 17 ∨ k = 18 ∨ k = 19 ∨ k = 20 ∨ k = 21 ∨ k = 22 ∨ k = 23 by omega) with rfl | rfl | rfl | rfl | rfl | rfl | rfl | rfl | rfl | rfl | rfl | rfl | rfl | rfl | rfl | rfl | rfl | rfl | rfl | rfl | rfl | rfl | rfl | rfl
 · exact ⟨qz, _, _, ac8 hev hS, rfl, rfl, .inl rfl, rfl, rfl, rfl⟩
 · exact ⟨qE, _, _, aeX hev hS, rfl, rfl, .inl rfl, rfl, rfl, rfl⟩
 · exact ⟨qC, _, _, adf hev hS, rfl, rfl, .inl rfl, rfl, rfl, rfl⟩
 · exact ⟨qm, _, _, ads hev hS, rfl, rfl, .inl rfl, rfl, rfl, rfl⟩
 · exact ⟨qw, _, _, adO hev hS, rfl, rfl, .inl rfl, rfl, rfl, rfl⟩
 · exact ⟨ql, _, _, adP hev hS, rfl, rfl, .inr ⟨rfl, by decide⟩, rfl, rfl, rfl⟩
 · exact ⟨qp, _, _, adA hev hS, rfl, rfl, .inr ⟨rfl, by decide⟩, rfl, rfl, rfl⟩
 · exact ⟨qj, _, _, acI hev hS, rfl, rfl, .inl rfl, rfl, rfl, rfl⟩
 · exact ⟨qG, _, _, aeS hev hS, rfl, rfl, .inl rfl, rfl, rfl, rfl⟩
 · exact ⟨qA, _, _, acR hev hS, rfl, rfl, .inl rfl, rfl, rfl, rfl⟩
 · exact ⟨om, _, _, YG hev hS, rfl, rfl, .inl rfl, rfl, rfl, rfl⟩
 · exact ⟨ou, _, _, ZY hev hS, rfl, rfl, .inl rfl, rfl, rfl, rfl⟩
 · exact ⟨nN, _, _, abl hev hS, rfl, rfl, .inl rfl, rfl, rfl, rfl⟩
 · exact ⟨nR, _, _, abg hev hS, rfl, rfl, .inl rfl, rfl, rfl, rfl⟩
 · exact ⟨nO, _, _, Zq hev hS, rfl, rfl, .inl rfl, rfl, rfl, rfl⟩
 · exact ⟨ow, _, _, YN hev hS, rfl, rfl, .inr ⟨rfl, by decide⟩, rfl, rfl, rfl⟩
 · exact ⟨nT, _, _, aaj hev hS, rfl, rfl, .inl rfl, rfl, rfl, rfl⟩
 · exact ⟨nQ, _, _, Yu hev hS, rfl, rfl, .inr ⟨rfl, by decide⟩, rfl, rfl, rfl⟩
 · exact ⟨nZ, _, _, aav hev hS, rfl, rfl, .inr ⟨rfl, by decide⟩, rfl, rfl, rfl⟩
 · exact ⟨nV, _, _, aak hev hS, rfl, rfl, .inl rfl, rfl, rfl, rfl⟩
 · exact ⟨nU, _, _, aag hev hS, rfl, rfl, .inl rfl, rfl, rfl, rfl⟩
 · exact ⟨og, _, _, ZO hev hS, rfl, rfl, .inl rfl, rfl, rfl, rfl⟩
 · exact ⟨nW, _, _, YB hev hS, rfl, rfl, .inr ⟨rfl, by decide⟩, rfl, rfl, rfl⟩
 · exact ⟨nM, _, _, YU hev hS, rfl, rfl, .inr ⟨rfl, by decide⟩, rfl, rfl, rfl⟩
theorem UZ {G : World → Prop} (hev : aG sh G) (hS : Safe kd ae G) {ln : Int} (h : ln ∈ tX) :
   ∃ s ks b, aV Tryz.prog kd sh B G 66 s [(s.res, s.post)] ∧ s.ps = [.ptr 66 0 .env, .ptr bT 0 (.par 1)] ∧ s.res = .bX [.ak ax ks, b] ∧ ((b = .bk false ∧ ln ∈ Lr) ∨ (b = .bk true ∧ ln ∈ [6, 7, 8, 9, 14, 20, 21, 22] ∧ ∀ c ∈ ks, rank c < rank 24 ∧ 0 ≤ c ∧ c < 24)) ∧ s.pre = [((1, bT, 0), .aN .i64 24), ((1, bT, 1), .aN .i64 ln)] ∧ s.aS = [] ∧ s.inc = 0 := by
 simp only [tX, List.mem_cons, List.not_mem_nil, or_false] at h
 rcases h with rfl | rfl | rfl | rfl | rfl | rfl | rfl | rfl | rfl | rfl | rfl | rfl | rfl | rfl | rfl
 · exact ⟨lh, _, _, Sw hev hS, rfl, rfl, .inr ⟨rfl, by decide, by decide⟩, rfl, rfl, rfl⟩
 · exact ⟨lq, _, _, Rv hev hS, rfl, rfl, .inr ⟨rfl, by decide, by decide⟩, rfl, rfl, rfl⟩
 · exact ⟨lC, _, _, Rx hev hS, rfl, rfl, .inr ⟨rfl, by decide, by decide⟩, rfl, rfl, rfl⟩
 · exact ⟨lu, _, _, RI hev hS, rfl, rfl, .inr ⟨rfl, by decide, by decide⟩, rfl, rfl, rfl⟩
 · exact ⟨jS, _, _, Qo hev hS, rfl, rfl, .inl ⟨rfl, by decide⟩, rfl, rfl, rfl⟩
 · exact ⟨jW, _, _, LQ hev hS, rfl, rfl, .inl ⟨rfl, by decide⟩, rfl, rfl, rfl⟩
 · exact ⟨jP, _, _, Qh hev hS, rfl, rfl, .inl ⟨rfl, by decide⟩, rfl, rfl, rfl⟩
 · exact ⟨ky, _, _, QG hev hS, rfl, rfl, .inr ⟨rfl, by decide, by decide⟩, rfl, rfl, rfl⟩
 · exact ⟨jY, _, _, PD hev hS, rfl, rfl, .inl ⟨rfl, by decide⟩, rfl, rfl, rfl⟩
 · exact ⟨jZ, _, _, Pf hev hS, rfl, rfl, .inl ⟨rfl, by decide⟩, rfl, rfl, rfl⟩
 · exact ⟨jT, _, _, PN hev hS, rfl, rfl, .inl ⟨rfl, by decide⟩, rfl, rfl, rfl⟩
 · exact ⟨jM, _, _, Mf hev hS, rfl, rfl, .inl ⟨rfl, by decide⟩, rfl, rfl, rfl⟩
 · exact ⟨kv, _, _, Nj hev hS, rfl, rfl, .inr ⟨rfl, by decide, by decide⟩, rfl, rfl, rfl⟩
 · exact ⟨jU, _, _, Nf hev hS, rfl, rfl, .inr ⟨rfl, by decide, by decide⟩, rfl, rfl, rfl⟩
 · exact ⟨jX, _, _, Nz hev hS, rfl, rfl, .inr ⟨rfl, by decide, by decide⟩, rfl, rfl, rfl⟩
theorem Hz {cx : Cx} {fb r o : Nat} {f : Array Value} (hb : cx.base = w.heap.size) (hF : w.heap[fb]? = some (.cells f bT (0, 0))) (h : Eff (dC B kd cx []) w w') : fc w' fb r o = fc w fb r o := by
 obtain ⟨c', k1, k2, k3⟩ := h.cells _ _ _ _ hF
 unfold fc
 rw [aa k1, k3, ← aa hF]
 have := aK hF
 rintro (hx | ⟨i, o, hm, hx, hy⟩ | ⟨o, hm, hy⟩)
 · omega
 · cases hm
 · cases hm
theorem ae3 {fb r rb cr : Nat} (h : At sh B N T w fb r) {ln : Int} (hF : FI T w fb r 24 ln) (hrb : sh.el 19 = .slice (some ⟨rb, 0, none⟩) T cr) :
   Calls Tryz.prog 66 #[.pointer (some ⟨sh.pe, 0, none⟩), .pointer (some ⟨fb, r * 18, none⟩)] w fun e w' => mJ sh T B N w rb fb r 24 e w' := by
 obtain ⟨f, hf1, BH, hf3⟩ := id h.row
 obtain ⟨lb, n, cap, t, rl, hl⟩ := hF.run rfl
 rcases hl with rfl | ⟨hln, ht0, JC⟩
 · exact abO h hF.c0 hF.c1 rl hrb
 obtain ⟨s, ks, b, hs, e1, e2, e3, e4, e5, e6⟩ := UZ (h.ee.ev h.wt) (eP w) hln
 have mZ := qM h.wt h.row rl.l
 refine (tH (fb := fb) (r := r) hs (Eff.refl _ w) (by rw [e4]; rfl) (by rw [e1]; rfl) h.wt h.bw (by have := h.nn; rw [e6]; omega) h.row (by rw [e1]; rfl) rfl (dM h.ee e1 rfl) (fun o t' ht' => ?_)).mono ?_
 · rw [e4] at ht'
   have hm := Hm.at_mem ht'
   simp only [List.mem_cons, List.not_mem_nil, or_false, Prod.mk.injEq] at hm
   rcases hm with ⟨⟨-, -, rfl⟩, rfl⟩ | ⟨⟨-, -, rfl⟩, rfl⟩
   · exact ⟨_, hF.c0, rfl, i64_in (by omega)⟩
   · refine ⟨_, hF.c1, rfl, ?_⟩
     simp only [tX, List.mem_cons, List.not_mem_nil, or_false] at hln
     exact i64_in (by omega)
 · rintro e w' ⟨v, rfl, g1, hps, g2, q, hq, g3, -⟩
   simp only [List.mem_singleton] at hq
   subst hq
   rw [e6] at g1 g3
   rw [e5] at g2
   simp only [e2] at g3
   have hfe := IE (w := w) (by decide) rfl hps g2
   have sf := fun o => Hz (r := r) (o := o) rfl BH g2
   have rl' : RL w' fb r lb n cap t := ⟨(sf 17).trans rl.l, l7 mZ (rZ BH hfe) rl.t, rl.ne⟩
   obtain ⟨cs, ok, rfl, ha, ⟨c, hc, hcs⟩, hok⟩ := oG g3 (by rcases e3 with ⟨rfl, -⟩ | ⟨rfl, -⟩ <;> exact .inr ⟨_, rfl⟩)
   rcases e3 with ⟨rfl, hll⟩ | ⟨rfl, hll, e3⟩
   · obtain rfl := hok _ rfl
     exact ⟨cs, false, rfl, g1, ha, hfe, (fun _ => ⟨ln, (sf 0).trans hF.c0, (sf 1).trans hF.c1, by omega, by omega, fun _ => ⟨lb, n, cap, t, rl', .inr ⟨hll, ht0, JC, fun h3 => by subst h3; exact absurd hln (by decide)⟩⟩, fun hx => by omega⟩), fun hx => by cases hx⟩
   · obtain rfl := hok _ rfl
     obtain ⟨r1, r2, r3⟩ := e3 c hc
     exact ⟨cs, true, rfl, g1, ha, hfe, (fun hx => by cases hx), fun _ => ⟨c, hcs, ⟨(sf 0).trans hF.c0, by omega, by omega, r1, r2, by omega, fun _ => ⟨lb, n, cap, t, ln, rl', ht0, JC, (sf 1).trans hF.c1, .inl hll⟩, fun hx => by omega⟩, fun hx => by omega⟩⟩
theorem ad6 {fb r rb : Nat} (h : At sh B N T w fb r) {ln : Int} (hF : FI T w fb r 26 ln) :
   Calls Tryz.prog 66 #[.pointer (some ⟨sh.pe, 0, none⟩), .pointer (some ⟨fb, r * 18, none⟩)] w fun e w' => mJ sh T B N w rb fb r 26 e w' := by
 have fM : N ≤ 68719476736 := by have := h.nn; omega
 obtain ⟨f, hf1, BH, hf3⟩ := id h.row
 obtain ⟨i, hi, hi0⟩ := hF.vk rfl
 have hev := h.ee.ev h.wt
 obtain ⟨i', hi', hik⟩ := pQ h.wt h.row (o := 9) (by omega) rfl
 rw [hi] at hi'
 cases hi'
 obtain ⟨kV, hl', hlk⟩ := pQ h.wt h.row (o := 1) (by omega) rfl
 rw [hF.c1] at hl'
 cases hl'
 obtain ⟨s, ks, b, hs, e1, e2, e3, e4, e5, e6⟩ : ∃ s ks b, aV Tryz.prog kd sh B (GW w) 66 s [(s.res, s.post)] ∧ s.ps = [.ptr 66 0 .env, .ptr bT 0 (.par 1)] ∧ s.res = .bX [.ak ax ks, b] ∧ (b = .bk false ∨ ((b = .bk true ∨ b = .c .bool) ∧ i < bO (sh.el 10) ∧ (ln = 3 → ∀ c ∈ ks, c = 12) ∧ ∀ c ∈ ks, rank c < rank 26 ∧ 0 ≤ c ∧ c < 24)) ∧ (∀ o t', s.pre.at (1, bT, o) = some t' → ∃ u, fc w fb r o = some u ∧ bD kd (bQ kd sh s #[.pointer (some ⟨sh.pe, 0, none⟩), .pointer (some ⟨fb, r * 18, none⟩)] w) w B N t' u) ∧ s.aS = [] ∧ (s.inc = 0 ∧ s.pre.all (fun e => decide (e.1.1 = 1) && decide (e.1.2.1 = bT) && decide (e.1.2.2 < 18)) = true) := by
   by_cases hir : i < bO (sh.el 10)
   · obtain ⟨z, rfl⟩ : ∃ z : Nat, i = z := ⟨i.toNat, by omega⟩
     have hz : z < bO (sh.el 10) ∧ z ≤ 68719476736 := ⟨by omega, by have := afa h.ee fM; omega⟩
     by_cases h3 : ln = 3
     · subst h3
       refine ⟨jB, _, _, QV hev (eP w), rfl, rfl, .inr ⟨.inl rfl, hir, fun _ => by decide, by decide⟩, fun o t' ht' => ?_, rfl, rfl, by decide⟩
       have hm := Hm.at_mem ht'
       simp only [jB, List.mem_cons, List.not_mem_nil, or_false, Prod.mk.injEq] at hm
       rcases hm with ⟨⟨-, -, rfl⟩, rfl⟩ | ⟨⟨-, -, rfl⟩, rfl⟩ | ⟨⟨-, -, rfl⟩, rfl⟩
       · exact ⟨_, hF.c0, rfl, i64_in (by omega)⟩
       · exact ⟨_, hF.c1, rfl, i64_in (by omega)⟩
       · exact ⟨_, hi, z, rfl, hz⟩
     · refine ⟨jA, _, _, Rj hev (eP w), rfl, rfl, .inr ⟨.inr rfl, hir, fun hx => absurd hx h3, by decide⟩, fun o t' ht' => ?_, rfl, rfl, by decide⟩
       have hm := Hm.at_mem ht'
       simp only [jA, List.mem_cons, List.not_mem_nil, or_false, Prod.mk.injEq] at hm
       rcases hm with ⟨⟨-, -, rfl⟩, rfl⟩ | ⟨⟨-, -, rfl⟩, rfl⟩ | ⟨⟨-, -, rfl⟩, rfl⟩
       · exact ⟨_, hF.c0, rfl, i64_in (by omega)⟩
       · exact ⟨_, hF.c1, ln, rfl, hlk, h3⟩
       · exact ⟨_, hi, z, rfl, hz⟩
   · refine ⟨jD, _, _, RN hev (eP w), rfl, rfl, .inl rfl, fun o t' ht' => ?_, rfl, rfl, by decide⟩
     have hm := Hm.at_mem ht'
     simp only [jD, List.mem_cons, List.not_mem_nil, or_false, Prod.mk.injEq] at hm
     rcases hm with ⟨⟨-, -, rfl⟩, rfl⟩ | ⟨⟨-, -, rfl⟩, rfl⟩
     · exact ⟨_, hF.c0, rfl, i64_in (by omega)⟩
     · exact ⟨_, hi, i, rfl, hik, by show (bO (sh.el 10) : Int) ≤ i; omega⟩
 refine (tH (fb := fb) (r := r) hs (Eff.refl _ w) e6.2 (by rw [e1]; rfl) h.wt h.bw (by have := h.nn; rw [e6.1]; omega) h.row (by rw [e1]; rfl) rfl (dM h.ee e1 rfl) e4).mono ?_
 rintro e w' ⟨v, rfl, g1, hps, g2, q, hq, g3, -⟩
 simp only [List.mem_singleton] at hq
 subst hq
 rw [e6.1] at g1 g3
 rw [e5] at g2
 simp only [e2] at g3
 have hfe := IE (w := w) (by decide) rfl hps g2
 have sf := fun o => Hz (r := r) (o := o) rfl BH g2
 obtain ⟨cs, ok, rfl, ha, ⟨c, hc, hcs⟩, hok⟩ := oG g3 (by rcases e3 with rfl | ⟨rfl | rfl, -⟩; exact .inr ⟨_, rfl⟩; exact .inr ⟨_, rfl⟩; exact .inl rfl)
 refine ⟨cs, ok, rfl, g1, ha, hfe, (fun _ => ⟨ln, (sf 0).trans hF.c0, (sf 1).trans hF.c1, by omega, by omega, fun hx => by omega, fun _ => ⟨i, (sf 9).trans hi, hi0⟩⟩), fun hx => ?_⟩
 rcases e3 with rfl | ⟨-, hir, h3, e3⟩
 · rw [hok _ rfl] at hx; cases hx
 · obtain ⟨r1, r2, r3⟩ := e3 c hc
   refine ⟨c, hcs, ⟨(sf 0).trans hF.c0, by omega, by omega, r1, r2, by omega, fun hx => by omega, fun _ => ⟨i.toNat, ln, ?_, by omega, (sf 1).trans hF.c1, fun hx => h3 hx c hc⟩⟩, fun hx => by omega⟩
   rw [sf 9, hi]
   congr 2
   omega
end
end Go.Proofs.YtncnepmgmphanaaGreatDoor
