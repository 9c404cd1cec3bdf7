/- What a frame enters (printed by gen_ent3.py). No condition beside those named. -/
import Derived.Test.YtncnepmgmphanaaGreatDoorMg17
import Derived.Test.YtncnepmgmphanaaGreatDoorMg12
set_option linter.unusedVariables false
set_option linter.unusedSimpArgs false
set_option linter.unusedSectionVars false
namespace Go.Proofs.YtncnepmgmphanaaGreatDoor
open Go.RowKit
variable [Inhabited SBW] {sh : Sh} {B N T : Nat} {w w' : World}
theorem enter_kind {G : World → Prop} (hev : EvG sh G) (hS : Safe kd prot G) {k : Int} (h0 : 0 ≤ k) (h1 : k < 24) :
    ∃ s ks b, TCa Tryz.prog kd sh B G 66 s [(s.res, s.post)] ∧ s.ps = [.ptr 66 0 .env, .ptr FRT 0 (.par 1)] ∧ s.res = .tup [.ak cs_r08_Frame ks, b] ∧ (b = .bk false ∨ (b = .c .bool ∧ ∀ c ∈ ks, rank c < rank k ∧ 0 ≤ c ∧ c < 24)) ∧ s.pre = [((1, FRT, 0), .kon .i64 k)] ∧ s.eff = [] ∧ s.inc = 0 := by
  rcases (show k = 0 ∨ k = 1 ∨ k = 2 ∨ k = 3 ∨ k = 4 ∨ k = 5 ∨ k = 6 ∨ k = 7 ∨ k = 8 ∨ k = 9 ∨ k = 10 ∨ k = 11 ∨ k = 12 ∨ k = 13 ∨ k = 14 ∨ k = 15 ∨ k = 16 ∨ k = 17 ∨ k = 18 ∨ k = 19 ∨ k = 20 ∨ k = 21 ∨ k = 22 ∨ k = 23 by omega) with rfl | rfl | rfl | rfl | rfl | rfl | rfl | rfl | rfl | rfl | rfl | rfl | rfl | rfl | rfl | rfl | rfl | rfl | rfl | rfl | rfl | rfl | rfl | rfl
  · exact ⟨sg_ent0, _, _, tca_ent0 hev hS, rfl, rfl, .inl rfl, rfl, rfl, rfl⟩
  · exact ⟨sg_ent1, _, _, tca_ent1 hev hS, rfl, rfl, .inl rfl, rfl, rfl, rfl⟩
  · exact ⟨sg_ent2, _, _, tca_ent2 hev hS, rfl, rfl, .inl rfl, rfl, rfl, rfl⟩
  · exact ⟨sg_ent3, _, _, tca_ent3 hev hS, rfl, rfl, .inl rfl, rfl, rfl, rfl⟩
  · exact ⟨sg_ent4, _, _, tca_ent4 hev hS, rfl, rfl, .inl rfl, rfl, rfl, rfl⟩
  · exact ⟨sg_ent5, _, _, tca_ent5 hev hS, rfl, rfl, .inr ⟨rfl, by decide⟩, rfl, rfl, rfl⟩
  · exact ⟨sg_ent6, _, _, tca_ent6 hev hS, rfl, rfl, .inr ⟨rfl, by decide⟩, rfl, rfl, rfl⟩
  · exact ⟨sg_ent7, _, _, tca_ent7 hev hS, rfl, rfl, .inl rfl, rfl, rfl, rfl⟩
  · exact ⟨sg_ent8, _, _, tca_ent8 hev hS, rfl, rfl, .inl rfl, rfl, rfl, rfl⟩
  · exact ⟨sg_ent9, _, _, tca_ent9 hev hS, rfl, rfl, .inl rfl, rfl, rfl, rfl⟩
  · exact ⟨sg_ent10, _, _, tca_ent10 hev hS, rfl, rfl, .inl rfl, rfl, rfl, rfl⟩
  · exact ⟨sg_ent11, _, _, tca_ent11 hev hS, rfl, rfl, .inl rfl, rfl, rfl, rfl⟩
  · exact ⟨sg_ent12, _, _, tca_ent12 hev hS, rfl, rfl, .inl rfl, rfl, rfl, rfl⟩
  · exact ⟨sg_ent13, _, _, tca_ent13 hev hS, rfl, rfl, .inl rfl, rfl, rfl, rfl⟩
  · exact ⟨sg_ent14, _, _, tca_ent14 hev hS, rfl, rfl, .inl rfl, rfl, rfl, rfl⟩
  · exact ⟨sg_ent15, _, _, tca_ent15 hev hS, rfl, rfl, .inr ⟨rfl, by decide⟩, rfl, rfl, rfl⟩
  · exact ⟨sg_ent16, _, _, tca_ent16 hev hS, rfl, rfl, .inl rfl, rfl, rfl, rfl⟩
  · exact ⟨sg_ent17, _, _, tca_ent17 hev hS, rfl, rfl, .inr ⟨rfl, by decide⟩, rfl, rfl, rfl⟩
  · exact ⟨sg_ent18, _, _, tca_ent18 hev hS, rfl, rfl, .inr ⟨rfl, by decide⟩, rfl, rfl, rfl⟩
  · exact ⟨sg_ent19, _, _, tca_ent19 hev hS, rfl, rfl, .inl rfl, rfl, rfl, rfl⟩
  · exact ⟨sg_ent20, _, _, tca_ent20 hev hS, rfl, rfl, .inl rfl, rfl, rfl, rfl⟩
  · exact ⟨sg_ent21, _, _, tca_ent21 hev hS, rfl, rfl, .inl rfl, rfl, rfl, rfl⟩
  · exact ⟨sg_ent22, _, _, tca_ent22 hev hS, rfl, rfl, .inr ⟨rfl, by decide⟩, rfl, rfl, rfl⟩
  · exact ⟨sg_ent23, _, _, tca_ent23 hev hS, rfl, rfl, .inr ⟨rfl, by decide⟩, rfl, rfl, rfl⟩
theorem enter_line {G : World → Prop} (hev : EvG sh G) (hS : Safe kd prot G) {ln : Int} (h : ln ∈ lineR) :
    ∃ s ks b, TCa Tryz.prog kd sh B G 66 s [(s.res, s.post)] ∧ s.ps = [.ptr 66 0 .env, .ptr FRT 0 (.par 1)] ∧ s.res = .tup [.ak cs_r08_Frame ks, b] ∧ ((b = .bk false ∧ ln ∈ leafL) ∨ (b = .bk true ∧ ln ∈ [6, 7, 8, 9, 14, 20, 21, 22] ∧ ∀ c ∈ ks, rank c < rank 24 ∧ 0 ≤ c ∧ c < 24)) ∧ s.pre = [((1, FRT, 0), .kon .i64 24), ((1, FRT, 1), .kon .i64 ln)] ∧ s.eff = [] ∧ s.inc = 0 := by
  simp only [lineR, List.mem_cons, List.not_mem_nil, or_false] at h
  rcases h with rfl | rfl | rfl | rfl | rfl | rfl | rfl | rfl | rfl | rfl | rfl | rfl | rfl | rfl | rfl
  · exact ⟨sg_ent24_6, _, _, tca_ent24_6 hev hS, rfl, rfl, .inr ⟨rfl, by decide, by decide⟩, rfl, rfl, rfl⟩
  · exact ⟨sg_ent24_7, _, _, tca_ent24_7 hev hS, rfl, rfl, .inr ⟨rfl, by decide, by decide⟩, rfl, rfl, rfl⟩
  · exact ⟨sg_ent24_8, _, _, tca_ent24_8 hev hS, rfl, rfl, .inr ⟨rfl, by decide, by decide⟩, rfl, rfl, rfl⟩
  · exact ⟨sg_ent24_9, _, _, tca_ent24_9 hev hS, rfl, rfl, .inr ⟨rfl, by decide, by decide⟩, rfl, rfl, rfl⟩
  · exact ⟨sg_ent24_11, _, _, tca_ent24_11 hev hS, rfl, rfl, .inl ⟨rfl, by decide⟩, rfl, rfl, rfl⟩
  · exact ⟨sg_ent24_12, _, _, tca_ent24_12 hev hS, rfl, rfl, .inl ⟨rfl, by decide⟩, rfl, rfl, rfl⟩
  · exact ⟨sg_ent24_13, _, _, tca_ent24_13 hev hS, rfl, rfl, .inl ⟨rfl, by decide⟩, rfl, rfl, rfl⟩
  · exact ⟨sg_ent24_14, _, _, tca_ent24_14 hev hS, rfl, rfl, .inr ⟨rfl, by decide, by decide⟩, rfl, rfl, rfl⟩
  · exact ⟨sg_ent24_15, _, _, tca_ent24_15 hev hS, rfl, rfl, .inl ⟨rfl, by decide⟩, rfl, rfl, rfl⟩
  · exact ⟨sg_ent24_16, _, _, tca_ent24_16 hev hS, rfl, rfl, .inl ⟨rfl, by decide⟩, rfl, rfl, rfl⟩
  · exact ⟨sg_ent24_18, _, _, tca_ent24_18 hev hS, rfl, rfl, .inl ⟨rfl, by decide⟩, rfl, rfl, rfl⟩
  · exact ⟨sg_ent24_19, _, _, tca_ent24_19 hev hS, rfl, rfl, .inl ⟨rfl, by decide⟩, rfl, rfl, rfl⟩
  · exact ⟨sg_ent24_20, _, _, tca_ent24_20 hev hS, rfl, rfl, .inr ⟨rfl, by decide, by decide⟩, rfl, rfl, rfl⟩
  · exact ⟨sg_ent24_21, _, _, tca_ent24_21 hev hS, rfl, rfl, .inr ⟨rfl, by decide, by decide⟩, rfl, rfl, rfl⟩
  · exact ⟨sg_ent24_22, _, _, tca_ent24_22 hev hS, rfl, rfl, .inr ⟨rfl, by decide, by decide⟩, rfl, rfl, rfl⟩
theorem same_fc {cx : Cx} {fb r o : Nat} {f : Array Value} (hb : cx.base = w.heap.size) (hF : w.heap[fb]? = some (.cells f FRT (0, 0))) (h : Eff (ChOf B kd cx []) w w') : fc w' fb r o = fc w fb r o := by
  obtain ⟨c', k1, k2, k3⟩ := h.cells _ _ _ _ hF
  unfold fc
  rw [cell_blk k1, k3, ← cell_blk hF]
  have := lt_of_blk hF
  rintro (hx | ⟨i, o, hm, hx, hy⟩ | ⟨o, hm, hy⟩)
  · omega
  · cases hm
  · cases hm
theorem enter_24 {fb r rb cr : Nat} (h : At sh B N T w fb r) {ln : Int} (hF : FI T w fb r 24 ln) (hrb : sh.el 19 = .slice (some ⟨rb, 0, none⟩) T cr) :
    Calls Tryz.prog 66 #[.pointer (some ⟨sh.pe, 0, none⟩), .pointer (some ⟨fb, r * 18, none⟩)] w fun e w' => EnterR sh T B N w rb fb r 24 e w' := by
  obtain ⟨f, hf1, hFb, hf3⟩ := id h.row
  obtain ⟨lb, n, cap, t, rl, hl⟩ := hF.run rfl
  rcases hl with rfl | ⟨hln, ht0, htT⟩
  · exact enter24_1 h hF.c0 hF.c1 rl hrb
  obtain ⟨s, ks, b, hs, e1, e2, e3, e4, e5, e6⟩ := enter_line (h.ee.ev h.wt) (safe_GW w) hln
  have o17 := fc_sl h.wt h.row rl.l
  refine (use_tca0 (fb := fb) (r := r) hs (Eff.refl _ w) (by rw [e4]; rfl) (by rw [e1]; rfl) h.wt h.bw (by have := h.nn; rw [e6]; omega) h.row (by rw [e1]; rfl) rfl (args2_ok h.ee e1 rfl) (fun o t' ht' => ?_)).mono ?_
  · rw [e4] at ht'
    have hm := Hm.at_mem ht'
    simp only [List.mem_cons, List.not_mem_nil, or_false, Prod.mk.injEq] at hm
    rcases hm with ⟨⟨-, -, rfl⟩, rfl⟩ | ⟨⟨-, -, rfl⟩, rfl⟩
    · exact ⟨_, hF.c0, rfl, i64_in (by omega)⟩
    · refine ⟨_, hF.c1, rfl, ?_⟩
      simp only [lineR, List.mem_cons, List.not_mem_nil, or_false] at hln
      exact i64_in (by omega)
  · rintro e w' ⟨v, rfl, g1, hps, g2, q, hq, g3, -⟩
    simp only [List.mem_singleton] at hq
    subst hq
    rw [e6] at g1 g3
    rw [e5] at g2
    simp only [e2] at g3
    have hfe := feff (w := w) (by decide) rfl hps g2
    have sf := fun o => same_fc (r := r) (o := o) rfl hFb g2
    have rl' : RL w' fb r lb n cap t := ⟨(sf 17).trans rl.l, sl_keep o17 (feff_np hFb hfe) rl.t, rl.ne⟩
    obtain ⟨cs, ok, rfl, ha, ⟨c, hc, hcs⟩, hok⟩ := tup_frame g3 (by rcases e3 with ⟨rfl, -⟩ | ⟨rfl, -⟩ <;> exact .inr ⟨_, rfl⟩)
    rcases e3 with ⟨rfl, hll⟩ | ⟨rfl, hll, e3⟩
    · obtain rfl := hok _ rfl
      exact ⟨cs, false, rfl, g1, ha, hfe, (fun _ => ⟨ln, (sf 0).trans hF.c0, (sf 1).trans hF.c1, by omega, by omega, fun _ => ⟨lb, n, cap, t, rl', .inr ⟨hll, ht0, htT, fun h3 => by subst h3; exact absurd hln (by decide)⟩⟩, fun hx => by omega⟩), fun hx => by cases hx⟩
    · obtain rfl := hok _ rfl
      obtain ⟨r1, r2, r3⟩ := e3 c hc
      exact ⟨cs, true, rfl, g1, ha, hfe, (fun hx => by cases hx), fun _ => ⟨c, hcs, ⟨(sf 0).trans hF.c0, by omega, by omega, r1, r2, by omega, fun _ => ⟨lb, n, cap, t, ln, rl', ht0, htT, (sf 1).trans hF.c1, .inl hll⟩, fun hx => by omega⟩, fun hx => by omega⟩⟩
theorem enter_26 {fb r rb : Nat} (h : At sh B N T w fb r) {ln : Int} (hF : FI T w fb r 26 ln) :
    Calls Tryz.prog 66 #[.pointer (some ⟨sh.pe, 0, none⟩), .pointer (some ⟨fb, r * 18, none⟩)] w fun e w' => EnterR sh T B N w rb fb r 26 e w' := by
  have hNN : N ≤ 68719476736 := by have := h.nn; omega
  obtain ⟨f, hf1, hFb, hf3⟩ := id h.row
  obtain ⟨i, hi, hi0⟩ := hF.cli rfl
  have hev := h.ee.ev h.wt
  obtain ⟨i', hi', hik⟩ := fc_int h.wt h.row (o := 9) (by omega) rfl
  rw [hi] at hi'
  cases hi'
  obtain ⟨ln', hl', hlk⟩ := fc_int h.wt h.row (o := 1) (by omega) rfl
  rw [hF.c1] at hl'
  cases hl'
  obtain ⟨s, ks, b, hs, e1, e2, e3, e4, e5, e6⟩ : ∃ s ks b, TCa Tryz.prog kd sh B (GW w) 66 s [(s.res, s.post)] ∧ s.ps = [.ptr 66 0 .env, .ptr FRT 0 (.par 1)] ∧ s.res = .tup [.ak cs_r08_Frame ks, b] ∧ (b = .bk false ∨ ((b = .bk true ∨ b = .c .bool) ∧ i < slLen (sh.el 10) ∧ (ln = 3 → ∀ c ∈ ks, c = 12) ∧ ∀ c ∈ ks, rank c < rank 26 ∧ 0 ≤ c ∧ c < 24)) ∧ (∀ o t', s.pre.at (1, FRT, o) = some t' → ∃ u, fc w fb r o = some u ∧ ATok kd (cxOf kd sh s #[.pointer (some ⟨sh.pe, 0, none⟩), .pointer (some ⟨fb, r * 18, none⟩)] w) w B N t' u) ∧ s.eff = [] ∧ (s.inc = 0 ∧ s.pre.all (fun e => decide (e.1.1 = 1) && decide (e.1.2.1 = FRT) && decide (e.1.2.2 < 18)) = true) := by
    by_cases hir : i < slLen (sh.el 10)
    · obtain ⟨z, rfl⟩ : ∃ z : Nat, i = z := ⟨i.toNat, by omega⟩
      have hz : z < slLen (sh.el 10) ∧ z ≤ 68719476736 := ⟨by omega, by have := el10 h.ee hNN; omega⟩
      by_cases h3 : ln = 3
      · subst h3
        refine ⟨sg_ent26_3, _, _, tca_ent26_3 hev (safe_GW w), rfl, rfl, .inr ⟨.inl rfl, hir, fun _ => by decide, by decide⟩, fun o t' ht' => ?_, rfl, rfl, by decide⟩
        have hm := Hm.at_mem ht'
        simp only [sg_ent26_3, List.mem_cons, List.not_mem_nil, or_false, Prod.mk.injEq] at hm
        rcases hm with ⟨⟨-, -, rfl⟩, rfl⟩ | ⟨⟨-, -, rfl⟩, rfl⟩ | ⟨⟨-, -, rfl⟩, rfl⟩
        · exact ⟨_, hF.c0, rfl, i64_in (by omega)⟩
        · exact ⟨_, hF.c1, rfl, i64_in (by omega)⟩
        · exact ⟨_, hi, z, rfl, hz⟩
      · refine ⟨sg_ent26_N, _, _, tca_ent26_N hev (safe_GW w), rfl, rfl, .inr ⟨.inr rfl, hir, fun hx => absurd hx h3, by decide⟩, fun o t' ht' => ?_, rfl, rfl, by decide⟩
        have hm := Hm.at_mem ht'
        simp only [sg_ent26_N, List.mem_cons, List.not_mem_nil, or_false, Prod.mk.injEq] at hm
        rcases hm with ⟨⟨-, -, rfl⟩, rfl⟩ | ⟨⟨-, -, rfl⟩, rfl⟩ | ⟨⟨-, -, rfl⟩, rfl⟩
        · exact ⟨_, hF.c0, rfl, i64_in (by omega)⟩
        · exact ⟨_, hF.c1, ln, rfl, hlk, h3⟩
        · exact ⟨_, hi, z, rfl, hz⟩
    · refine ⟨sg_ent26_O, _, _, tca_ent26_O hev (safe_GW w), rfl, rfl, .inl rfl, fun o t' ht' => ?_, rfl, rfl, by decide⟩
      have hm := Hm.at_mem ht'
      simp only [sg_ent26_O, List.mem_cons, List.not_mem_nil, or_false, Prod.mk.injEq] at hm
      rcases hm with ⟨⟨-, -, rfl⟩, rfl⟩ | ⟨⟨-, -, rfl⟩, rfl⟩
      · exact ⟨_, hF.c0, rfl, i64_in (by omega)⟩
      · exact ⟨_, hi, i, rfl, hik, by show (slLen (sh.el 10) : Int) ≤ i; omega⟩
  refine (use_tca0 (fb := fb) (r := r) hs (Eff.refl _ w) e6.2 (by rw [e1]; rfl) h.wt h.bw (by have := h.nn; rw [e6.1]; omega) h.row (by rw [e1]; rfl) rfl (args2_ok h.ee e1 rfl) e4).mono ?_
  rintro e w' ⟨v, rfl, g1, hps, g2, q, hq, g3, -⟩
  simp only [List.mem_singleton] at hq
  subst hq
  rw [e6.1] at g1 g3
  rw [e5] at g2
  simp only [e2] at g3
  have hfe := feff (w := w) (by decide) rfl hps g2
  have sf := fun o => same_fc (r := r) (o := o) rfl hFb g2
  obtain ⟨cs, ok, rfl, ha, ⟨c, hc, hcs⟩, hok⟩ := tup_frame g3 (by rcases e3 with rfl | ⟨rfl | rfl, -⟩; exact .inr ⟨_, rfl⟩; exact .inr ⟨_, rfl⟩; exact .inl rfl)
  refine ⟨cs, ok, rfl, g1, ha, hfe, (fun _ => ⟨ln, (sf 0).trans hF.c0, (sf 1).trans hF.c1, by omega, by omega, fun hx => by omega, fun _ => ⟨i, (sf 9).trans hi, hi0⟩⟩), fun hx => ?_⟩
  rcases e3 with rfl | ⟨-, hir, h3, e3⟩
  · rw [hok _ rfl] at hx; cases hx
  · obtain ⟨r1, r2, r3⟩ := e3 c hc
    refine ⟨c, hcs, ⟨(sf 0).trans hF.c0, by omega, by omega, r1, r2, by omega, fun hx => by omega, fun _ => ⟨i.toNat, ln, ?_, by omega, (sf 1).trans hF.c1, fun hx => h3 hx c hc⟩⟩, fun hx => by omega⟩
    rw [sf 9, hi]
    congr 2
    omega
end Go.Proofs.YtncnepmgmphanaaGreatDoor

namespace Go.Proofs.YtncnepmgmphanaaGreatDoor
open Go.RowKit
variable [Inhabited SBW] {sh : Sh} {B N T : Nat} {w w' : World}
theorem args4_ok {s : FSig} {fb r : Nat} {x y : Int} {t2 t3 : AT} (h : EE sh B N T w) (hps : s.ps = [.ptr 66 0 .env, .ptr FRT 0 (.par 1), t2, t3]) {sh' : Sh} (hsh : sh'.pe = sh.pe) (h2 : ∀ cx : Cx, cx.sh = sh' → ATok kd cx w B N t2 (.int .i64 x)) (h3 : ∀ cx : Cx, cx.sh = sh' → ATok kd cx w B N t3 (.int .i64 y)) :
    ∀ (i : Nat) (t : AT), s.ps[i]? = some t → i ≠ 1 → ∃ v, #[Value.pointer (some ⟨sh.pe, 0, none⟩), Value.pointer (some ⟨fb, r * 18, none⟩), .int .i64 x, .int .i64 y][i]? = some v ∧ ATok kd (cxOf kd sh' s #[.pointer (some ⟨sh.pe, 0, none⟩), .pointer (some ⟨fb, r * 18, none⟩), .int .i64 x, .int .i64 y] w) w B N t v := by
  intro i t ht hi
  rw [hps] at ht
  match i, ht with
  | 0, ht => cases ht; exact ⟨_, rfl, env_arg h hsh⟩
  | 1, ht => exact absurd rfl hi
  | 2, ht => cases ht; exact ⟨_, rfl, h2 _ rfl⟩
  | 3, ht => cases ht; exact ⟨_, rfl, h3 _ rfl⟩
theorem int_at {cx : Cx} {x : Int} (hx : inK .i64 x) : ATok kd cx w B N (.v (.c (.int .i64))) (.int .i64 x) := ⟨x, rfl, hx⟩
theorem ne_at {cx : Cx} {x n : Int} (hx : inK .i64 x) (h : x ≠ n) : ATok kd cx w B N (.ne .i64 n) (.int .i64 x) := ⟨x, rfl, hx, h⟩
theorem kon_at {cx : Cx} {n : Int} (hx : inK .i64 n) : ATok kd cx w B N (.kon .i64 n) (.int .i64 n) := ⟨rfl, hx⟩
theorem ixe_at {cx : Cx} {z o : Nat} (h1 : z < slLen (cx.el o)) (h2 : z ≤ 68719476736) : ATok kd cx w B N (.ixe o) (.int .i64 z) := ⟨z, rfl, h1, h2⟩
theorem back_kind {G : World → Prop} (hev : EvG sh G) (hS : Safe kd prot G) (hclaim : TC Tryz.prog kd sh B G 146 sg_claim) (hprobe : TC Tryz.prog kd sh B G 108 sg_probe) {k : Int} (h0 : 0 ≤ k) (h1 : k ≤ 26) (h24 : k ≠ 24) (h26 : k ≠ 26) :
    ∃ s, TCa Tryz.prog kd sh B G 68 s [(s.res, s.post)] ∧ s.ps = [.ptr 66 0 .env, .ptr FRT 0 (.par 1), .v (.c (.int .i64)), .v (.c (.int .i64))] ∧ s.res = .v (.agg cs_r08_result) ∧ s.pre = [((1, FRT, 0), .kon .i64 k)] ∧ effFr s.eff = true ∧ s.inc = 3 := by
  rcases (show k = 0 ∨ k = 1 ∨ k = 2 ∨ k = 3 ∨ k = 4 ∨ k = 5 ∨ k = 6 ∨ k = 7 ∨ k = 8 ∨ k = 9 ∨ k = 10 ∨ k = 11 ∨ k = 12 ∨ k = 13 ∨ k = 14 ∨ k = 15 ∨ k = 16 ∨ k = 17 ∨ k = 18 ∨ k = 19 ∨ k = 20 ∨ k = 21 ∨ k = 22 ∨ k = 23 ∨ k = 25 by omega) with rfl | rfl | rfl | rfl | rfl | rfl | rfl | rfl | rfl | rfl | rfl | rfl | rfl | rfl | rfl | rfl | rfl | rfl | rfl | rfl | rfl | rfl | rfl | rfl | rfl
  · exact ⟨sg_back0, tca_of_tc (tc_back0 hev hS hclaim hprobe), rfl, rfl, rfl, by decide, rfl⟩
  · exact ⟨sg_back1, tca_of_tc (tc_back1 hev hS hclaim hprobe), rfl, rfl, rfl, by decide, rfl⟩
  · exact ⟨sg_back2, tca_of_tc (tc_back2 hev hS hclaim hprobe), rfl, rfl, rfl, by decide, rfl⟩
  · exact ⟨sg_back3, tca_of_tc (tc_back3 hev hS hclaim hprobe), rfl, rfl, rfl, by decide, rfl⟩
  · exact ⟨sg_back4, tca_of_tc (tc_back4 hev hS hclaim hprobe), rfl, rfl, rfl, by decide, rfl⟩
  · exact ⟨sg_back5, tca_of_tc (tc_back5 hev hS hclaim hprobe), rfl, rfl, rfl, by decide, rfl⟩
  · exact ⟨sg_back6, tca_of_tc (tc_back6 hev hS hclaim hprobe), rfl, rfl, rfl, by decide, rfl⟩
  · exact ⟨sg_back7, tca_of_tc (tc_back7 hev hS hclaim hprobe), rfl, rfl, rfl, by decide, rfl⟩
  · exact ⟨sg_back8, tca_of_tc (tc_back8 hev hS hclaim hprobe), rfl, rfl, rfl, by decide, rfl⟩
  · exact ⟨sg_back9, tca_of_tc (tc_back9 hev hS hclaim hprobe), rfl, rfl, rfl, by decide, rfl⟩
  · exact ⟨sg_back10, tca_of_tc (tc_back10 hev hS hclaim hprobe), rfl, rfl, rfl, by decide, rfl⟩
  · exact ⟨sg_back11, tca_of_tc (tc_back11 hev hS hclaim hprobe), rfl, rfl, rfl, by decide, rfl⟩
  · exact ⟨sg_back12, tca_of_tc (tc_back12 hev hS hclaim hprobe), rfl, rfl, rfl, by decide, rfl⟩
  · exact ⟨sg_back13, tca_of_tc (tc_back13 hev hS hclaim hprobe), rfl, rfl, rfl, by decide, rfl⟩
  · exact ⟨sg_back14, tca_of_tc (tc_back14 hev hS hclaim hprobe), rfl, rfl, rfl, by decide, rfl⟩
  · exact ⟨sg_back15, tca_of_tc (tc_back15 hev hS hclaim hprobe), rfl, rfl, rfl, by decide, rfl⟩
  · exact ⟨sg_back16, tca_of_tc (tc_back16 hev hS hclaim hprobe), rfl, rfl, rfl, by decide, rfl⟩
  · exact ⟨sg_back17, tca_of_tc (tc_back17 hev hS hclaim hprobe), rfl, rfl, rfl, by decide, rfl⟩
  · exact ⟨sg_back18, tca_of_tc (tc_back18 hev hS hclaim hprobe), rfl, rfl, rfl, by decide, rfl⟩
  · exact ⟨sg_back19, tca_of_tc (tc_back19 hev hS hclaim hprobe), rfl, rfl, rfl, by decide, rfl⟩
  · exact ⟨sg_back20, tca_of_tc (tc_back20 hev hS hclaim hprobe), rfl, rfl, rfl, by decide, rfl⟩
  · exact ⟨sg_back21, tca_of_tc (tc_back21 hev hS hclaim hprobe), rfl, rfl, rfl, by decide, rfl⟩
  · exact ⟨sg_back22, tca_of_tc (tc_back22 hev hS hclaim hprobe), rfl, rfl, rfl, by decide, rfl⟩
  · exact ⟨sg_back23, tca_of_tc (tc_back23 hev hS hclaim hprobe), rfl, rfl, rfl, by decide, rfl⟩
  · exact ⟨sg_back25, tca_of_tc (tc_back25 hev hS hclaim hprobe), rfl, rfl, rfl, by decide, rfl⟩
theorem back24_line {fb r lb n cap t : Nat} (h : Stk sh B N T w fb r lb n cap t) {ln x y : Int} (c1 : fc w fb r 1 = some (.int .i64 ln)) (hln : ln ∈ [6, 7, 8, 20, 9, 14, 21, 22]) (h22 : ln = 22 → x ≠ 1) (hx : inK .i64 x) (hy : inK .i64 y) :
    Calls Tryz.prog 68 #[.pointer (some ⟨sh.pe, 0, none⟩), .pointer (some ⟨fb, r * 18, none⟩), .int .i64 x, .int .i64 y] w fun e w' => LineR T B (N + 5) w fb r 24 e w' := by
  have hcl := fun a b => (h.ee.shL a b).claim h.wt
  have hpr := fun a b => (h.ee.shL a b).probe h.wt
  have hev := fun a b => (h.ee.shL a b).ev h.wt
  have hS := safe_GW w
  have hU : ∀ q ∈ altsU, q ∈ altsU0 ∨ (q ∈ altsU ∧ Value.slice (some ⟨lb, 0, none⟩) (n + 1) cap = .slice (some ⟨lb, 0, none⟩) (n + 1) cap ∧ n ≤ n) := fun q hq => .inr ⟨hq, rfl, Nat.le_refl _⟩
  simp only [List.mem_cons, List.not_mem_nil, or_false] at hln
  rcases hln with rfl | rfl | rfl | rfl | rfl | rfl | rfl | rfl
  · exact h.l24 c1 (i64_in (by omega)) (tca_bk24_6A (hev _ _) hS (hcl _ _) (hpr _ _) (h.top (.slice (some ⟨lb, 0, none⟩) (n + 1) cap))) (by decide) rfl (by decide) rfl rfl (args4_ok h.ee rfl rfl (fun _ _ => int_at hx) (fun _ _ => int_at hy)) rfl hU
  · exact h.l24 c1 (i64_in (by omega)) (tca_bk24_7A (hev _ _) hS (hcl _ _) (hpr _ _) (h.top (.slice (some ⟨lb, 0, none⟩) (n + 1) cap))) (by decide) rfl (by decide) rfl rfl (args4_ok h.ee rfl rfl (fun _ _ => int_at hx) (fun _ _ => int_at hy)) rfl hU
  · exact h.l24 c1 (i64_in (by omega)) (tca_bk24_8A (hev _ _) hS (hcl _ _) (hpr _ _) (h.top (.slice (some ⟨lb, 0, none⟩) (n + 1) cap))) (by decide) rfl (by decide) rfl rfl (args4_ok h.ee rfl rfl (fun _ _ => int_at hx) (fun _ _ => int_at hy)) rfl hU
  · exact h.l24 c1 (i64_in (by omega)) (tca_bk24_20A (hev _ _) hS (hcl _ _) (hpr _ _) (h.top (.slice (some ⟨lb, 0, none⟩) (n + 1) cap))) (by decide) rfl (by decide) rfl rfl (args4_ok h.ee rfl rfl (fun _ _ => int_at hx) (fun _ _ => int_at hy)) rfl hU
  · exact h.l24 c1 (i64_in (by omega)) (tca_bk24_9A (hev _ _) hS (hcl _ _) (hpr _ _) (h.top (.slice (some ⟨lb, 0, none⟩) (n + 1) cap))) (by decide) rfl (by decide) rfl rfl (args4_ok h.ee rfl rfl (fun _ _ => int_at hx) (fun _ _ => int_at hy)) rfl hU
  · by_cases hn : n = 0
    · exact h.l24 (m := 0) c1 (i64_in (by omega)) (tca_bk24_140 (hev _ _) hS (hcl _ _) (hpr _ _) (h.top (.slice (some ⟨lb, 0, none⟩) n cap)) (tca_leave0 (hev _ _) hS ⟨rfl, rfl⟩ hn)) (by decide) rfl (by decide) rfl rfl (args4_ok h.ee rfl rfl (fun _ _ => int_at hx) (fun _ _ => int_at hy)) rfl (fun q hq => .inl hq)
    · obtain ⟨m, rfl⟩ : ∃ m, n = m + 1 := ⟨n - 1, by omega⟩
      exact h.l24 (m := m) c1 (i64_in (by omega)) (tca_bk24_14N (hev _ _) hS (hcl _ _) (hpr _ _) (h.top (.slice (some ⟨lb, 0, none⟩) (m + 1) cap)) (tca_leaveN ⟨rfl, rfl⟩ (by omega))) (by decide) rfl (by decide) rfl rfl (args4_ok h.ee rfl rfl (fun _ _ => int_at hx) (fun _ _ => int_at hy)) rfl (fun q hq => .inr ⟨hq, rfl, by omega⟩)
  · by_cases hn : n = 0
    · exact h.l24 (m := 0) c1 (i64_in (by omega)) (tca_bk24_210 (hev _ _) hS (hcl _ _) (hpr _ _) (h.top (.slice (some ⟨lb, 0, none⟩) n cap)) (tca_leave0 (hev _ _) hS ⟨rfl, rfl⟩ hn)) (by decide) rfl (by decide) rfl rfl (args4_ok h.ee rfl rfl (fun _ _ => int_at hx) (fun _ _ => int_at hy)) rfl (fun q hq => .inl hq)
    · obtain ⟨m, rfl⟩ : ∃ m, n = m + 1 := ⟨n - 1, by omega⟩
      exact h.l24 (m := m) c1 (i64_in (by omega)) (tca_bk24_21N (hev _ _) hS (hcl _ _) (hpr _ _) (h.top (.slice (some ⟨lb, 0, none⟩) (m + 1) cap)) (tca_leaveN ⟨rfl, rfl⟩ (by omega))) (by decide) rfl (by decide) rfl rfl (args4_ok h.ee rfl rfl (fun _ _ => int_at hx) (fun _ _ => int_at hy)) rfl (fun q hq => .inr ⟨hq, rfl, by omega⟩)
  · by_cases hn : n = 0
    · exact h.l24 (m := 0) c1 (i64_in (by omega)) (tca_bk24_220 (hev _ _) hS (hcl _ _) (hpr _ _) (h.top (.slice (some ⟨lb, 0, none⟩) n cap)) (tca_leave0 (hev _ _) hS ⟨rfl, rfl⟩ hn)) (by decide) rfl (by decide) rfl rfl (args4_ok h.ee rfl rfl (fun _ _ => ne_at hx (h22 rfl)) (fun _ _ => int_at hy)) rfl (fun q hq => .inl hq)
    · obtain ⟨m, rfl⟩ : ∃ m, n = m + 1 := ⟨n - 1, by omega⟩
      exact h.l24 (m := m) c1 (i64_in (by omega)) (tca_bk24_22N (hev _ _) hS (hcl _ _) (hpr _ _) (h.top (.slice (some ⟨lb, 0, none⟩) (m + 1) cap)) (tca_leaveN ⟨rfl, rfl⟩ (by omega))) (by decide) rfl (by decide) rfl rfl (args4_ok h.ee rfl rfl (fun _ _ => ne_at hx (h22 rfl)) (fun _ _ => int_at hy)) rfl (fun q hq => .inr ⟨hq, rfl, by omega⟩)
theorem back_other {fb r rb : Nat} (h : At sh B N T w fb r) {k c x y : Int} (hP : PI sh T w rb fb r k c) (h24 : k ≠ 24) (hx : inK .i64 x) (hy : inK .i64 y) (hv : c = 12 → x = 3 ∨ (0 ≤ y ∧ y < T)) :
    Calls Tryz.prog 68 #[.pointer (some ⟨sh.pe, 0, none⟩), .pointer (some ⟨fb, r * 18, none⟩), .int .i64 x, .int .i64 y] w fun e w' => LineR T B (N + 5) w fb r k e w' := by
  have hNN : N ≤ 68719476736 := by have := h.nn; omega
  by_cases h26 : k = 26
  · subst h26
    obtain ⟨z, ln, hi, hz', hl, h3⟩ := hP.cli rfl
    obtain ⟨ln', hl', hlk⟩ := fc_int h.wt h.row (o := 1) (by omega) rfl
    rw [hl] at hl'
    cases hl'
    have hz : z < slLen (sh.el 10) ∧ z ≤ 68719476736 := ⟨hz', by have := el10 h.ee hNN; omega⟩
    suffices hs : Calls Tryz.prog 68 #[.pointer (some ⟨sh.pe, 0, none⟩), .pointer (some ⟨fb, r * 18, none⟩), .int .i64 x, .int .i64 y] w fun e w' => LineR T B (N + 2) w fb r 26 e w' by
      exact hs.mono fun e w' hr => hr.mono (by omega)
    by_cases hl3 : ln = 3
    · subst hl3
      rcases hv (h3 rfl) with rfl | ⟨hy0, hyT⟩
      · refine (use_tca (fb := fb) (r := r) (tca_bk26_3F (h.ee.ev h.wt) (safe_GW w) (h.ee.claim h.wt) (h.ee.probe h.wt)) (by decide) (by decide) rfl h.wt h.bw (by have := h.nn; show N + 2 ≤ _; omega) h.row rfl rfl (args4_ok h.ee rfl rfl (fun _ _ => kon_at hx) (fun _ _ => int_at hy)) (fun o t' ht' => ?_)).mono ?_
        · have hm := Hm.at_mem ht'
          simp only [sg_bk26_3F, List.mem_cons, List.not_mem_nil, or_false, Prod.mk.injEq] at hm
          rcases hm with ⟨⟨-, -, rfl⟩, rfl⟩ | ⟨⟨-, -, rfl⟩, rfl⟩ | ⟨⟨-, -, rfl⟩, rfl⟩
          · exact ⟨_, hP.c0, rfl, i64_in (by omega)⟩
          · exact ⟨_, hl, rfl, i64_in (by omega)⟩
          · exact ⟨_, hi, z, rfl, hz⟩
        · rintro e w' ⟨v, rfl, g1, g2, q, hq, g3, g4⟩
          exact ⟨v, rfl, g1, g2, altsC_FI g1 h.row g2 hP.c0 hq g3 g4⟩
      · obtain ⟨yn, rfl⟩ : ∃ yn : Nat, y = yn := ⟨y.toNat, by omega⟩
        refine (use_tca (fb := fb) (r := r) (tca_bk26_3 (h.ee.ev h.wt) (safe_GW w) (h.ee.claim h.wt) (h.ee.probe h.wt)) (by decide) (by decide) rfl h.wt h.bw (by have := h.nn; show N + 2 ≤ _; omega) h.row rfl rfl (args4_ok h.ee rfl rfl (fun _ _ => int_at hx) (fun cx hcx => ixe_at (by have e0 : cx.el = sh.el := congrArg Sh.el hcx; rw [e0, h.ee.recs]; omega) (by have := h.ee.small; omega))) (fun o t' ht' => ?_)).mono ?_
        · have hm := Hm.at_mem ht'
          simp only [sg_bk26_3, List.mem_cons, List.not_mem_nil, or_false, Prod.mk.injEq] at hm
          rcases hm with ⟨⟨-, -, rfl⟩, rfl⟩ | ⟨⟨-, -, rfl⟩, rfl⟩ | ⟨⟨-, -, rfl⟩, rfl⟩
          · exact ⟨_, hP.c0, rfl, i64_in (by omega)⟩
          · exact ⟨_, hl, rfl, i64_in (by omega)⟩
          · exact ⟨_, hi, z, rfl, hz⟩
        · rintro e w' ⟨v, rfl, g1, g2, q, hq, g3, g4⟩
          exact ⟨v, rfl, g1, g2, altsC_FI g1 h.row g2 hP.c0 hq g3 g4⟩
    · suffices hs : Calls Tryz.prog 68 #[.pointer (some ⟨sh.pe, 0, none⟩), .pointer (some ⟨fb, r * 18, none⟩), .int .i64 x, .int .i64 y] w fun e w' => LineR T B (N + 2) w fb r 26 e w' by exact hs
      · refine (use_tca (fb := fb) (r := r) (tca_bk26_N (h.ee.ev h.wt) (safe_GW w) (h.ee.claim h.wt) (h.ee.probe h.wt)) (by decide) (by decide) rfl h.wt h.bw (by have := h.nn; show N + 2 ≤ _; omega) h.row rfl rfl (args4_ok h.ee rfl rfl (fun _ _ => int_at hx) (fun _ _ => int_at hy)) (fun o t' ht' => ?_)).mono ?_
        · have hm := Hm.at_mem ht'
          simp only [sg_bk26_N, List.mem_cons, List.not_mem_nil, or_false, Prod.mk.injEq] at hm
          rcases hm with ⟨⟨-, -, rfl⟩, rfl⟩ | ⟨⟨-, -, rfl⟩, rfl⟩ | ⟨⟨-, -, rfl⟩, rfl⟩
          · exact ⟨_, hP.c0, rfl, i64_in (by omega)⟩
          · exact ⟨_, hl, ln, rfl, hlk, hl3⟩
          · exact ⟨_, hi, z, rfl, hz⟩
        · rintro e w' ⟨v, rfl, g1, g2, q, hq, g3, g4⟩
          exact ⟨v, rfl, g1, g2, altsC_FI g1 h.row g2 hP.c0 hq g3 g4⟩
  · obtain ⟨s, hs, e1, e2, e3, e4, e5⟩ := back_kind (h.ee.ev h.wt) (safe_GW w) (h.ee.claim h.wt) (h.ee.probe h.wt) hP.lo hP.hi h24 h26
    suffices hs : Calls Tryz.prog 68 #[.pointer (some ⟨sh.pe, 0, none⟩), .pointer (some ⟨fb, r * 18, none⟩), .int .i64 x, .int .i64 y] w fun e w' => LineR T B (N + 3) w fb r k e w' by
      exact hs.mono fun e w' hr => hr.mono (by omega)
    refine (use_tca (fb := fb) (r := r) hs e4 (by rw [e3]; rfl) (by rw [e1]; rfl) h.wt h.bw (by have := h.nn; rw [e5]; omega) h.row (by rw [e1]; rfl) rfl (args4_ok h.ee e1 rfl (fun _ _ => int_at hx) (fun _ _ => int_at hy)) (fun o t' ht' => ?_)).mono ?_
    · rw [e3] at ht'
      have hm := Hm.at_mem ht'
      simp only [List.mem_cons, List.not_mem_nil, or_false, Prod.mk.injEq] at hm
      obtain ⟨⟨-, -, rfl⟩, rfl⟩ := hm
      exact ⟨_, hP.c0, rfl, i64_in ⟨by have := hP.lo; omega, by have := hP.hi; omega⟩⟩
    · rintro e w' ⟨v, rfl, g1, g2, q, hq, g3, -⟩
      simp only [List.mem_singleton] at hq
      subst hq
      rw [e5] at g1
      simp only [e2] at g3
      obtain ⟨d, k', x', hr⟩ := res_agg g3
      exact ⟨v, rfl, g1, g2, d, k', x', hr, fun _ => FI.other g1 h.row g2 hP.c0 hP.lo hP.hi h24 h26⟩
end Go.Proofs.YtncnepmgmphanaaGreatDoor

namespace Go.Proofs.YtncnepmgmphanaaGreatDoor
open Go.RowKit
variable [Inhabited SBW] {sh : Sh} {B N T : Nat} {w w' : World}
theorem tc_topV {G : World → Prop} {lb n cap t : Nat} (hL : ShL sh G lb n cap t) : TC Tryz.prog kd sh B G 156 sg_topV := by
  intro N w args ha hB hl hw hG hp hpre
  obtain ⟨a, rfl⟩ := args1 ha
  obtain ⟨fb, r, rfl, -, -, hps, hfb⟩ := arg_at hp (i := 0) rfl rfl
  obtain ⟨-, -, -, v, h4, h5⟩ := hpre 0 118 17 (.vsl 0 3 1) rfl
  rw [hps] at h4
  have h5' : v = sh.vals 0 := h5.1
  rw [h5', hL.val] at h4
  refine (top_any w fb (r * kd.sz 118 + 0) lb n cap t hL.len h4 (hL.cell w hG)).mono ?_
  rintro e w' ⟨rfl, q, rfl⟩
  exact ⟨_, rfl, hw.drewN q, (Eff.refl _ _).drewN q, ⟨t, rfl, hL.lt, hL.small⟩, no_post⟩
theorem back24_22g {fb r lb n cap t : Nat} (h : Stk sh B N T w fb r lb n cap t) {y : Int} (c1 : fc w fb r 1 = some (.int .i64 22)) (hy : inK .i64 y) :
    Calls Tryz.prog 68 #[.pointer (some ⟨sh.pe, 0, none⟩), .pointer (some ⟨fb, r * 18, none⟩), .int .i64 1, .int .i64 y] w fun e w' => LineR T B (N + 5) w fb r 24 e w' := by
  have hs := h.ee.shL (.slice (some ⟨lb, 0, none⟩) (n + 1) cap) (.slice none 0 0)
  have htop : TC Tryz.prog kd (shL sh (.slice (some ⟨lb, 0, none⟩) (n + 1) cap) (.slice none 0 0)) B (GW w) 156 sg_topV :=
    tc_topV (lb := lb) (n := n) (cap := cap) (t := t) ⟨rfl, h.keep, by show t < slLen (sh.el 19); rw [h.ee.recs]; exact h.lt, by have := h.ee.small; have := h.lt; omega, h.nle⟩
  refine (use_tca (sh := shL sh (.slice (some ⟨lb, 0, none⟩) (n + 1) cap) (.slice none 0 0)) (fb := fb) (r := r) (tca_bk24_22G (hs.ev h.wt) (safe_GW w) (hs.claim h.wt) (hs.probe h.wt) htop) (by decide) (by decide) rfl h.wt h.bw (by have := h.nn; show N + 5 ≤ _; omega) h.row rfl rfl (args4_ok h.ee rfl rfl (fun _ _ => kon_at (i64_in (by omega))) (fun _ _ => int_at hy)) (fun o t' ht' => ?_)).mono ?_
  · have hm := Hm.at_mem ht'
    simp only [sg_bk24_22G, List.mem_cons, List.not_mem_nil, or_false, Prod.mk.injEq] at hm
    rcases hm with ⟨⟨-, -, rfl⟩, rfl⟩ | ⟨⟨-, -, rfl⟩, rfl⟩ | ⟨⟨-, -, rfl⟩, rfl⟩
    · exact ⟨_, h.c0, rfl, i64_in (by omega)⟩
    · exact ⟨_, c1, rfl, i64_in (by omega)⟩
    · exact ⟨_, h.rl.l, rfl, h.o17, by show 0 < n + 1; omega⟩
  · rintro e w' ⟨v, rfl, g1, g2, q, hq, g3, g4⟩
    refine ⟨v, rfl, g1, g2, ?_⟩
    have hq' : q ∈ altsU0 := by
      simp only [List.mem_singleton] at hq
      subst hq
      simp [altsU0]
    exact alts_FI (T := T) (t := t) (m := 0) h.wt g1 h.row g2 h.bw h.ee.sbl h.c0 h.rl ⟨by omega, by have := h.lt; omega⟩ rfl (.inl hq') g3 g4
end Go.Proofs.YtncnepmgmphanaaGreatDoor
