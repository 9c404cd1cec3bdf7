/- Leaf, every frame, by types. No condition beside those named. -/
import Derived.Test.YtncnepmgmphanaaGreatDoorMg15
set_option linter.unusedVariables false
set_option linter.unusedSimpArgs false
set_option linter.unusedSectionVars false
namespace Go.Proofs.YtncnepmgmphanaaGreatDoor
open Go.RowKit
variable [Inhabited SBW] {sh : Sh} {B N T : Nat} {w w' : World}
structure At (sh : Sh) (B N T : Nat) (w : World) (fb r : Nat) : Prop where
  ee : EE sh B N T w
  wt : WT kd.sig B N w
  bw : B ≤ w.heap.size
  nn : N + 5 ≤ 68719476736
  row : RowIn kd w B FRT fb r
theorem At.stk {fb r lb n cap t : Nat} (h : At sh B N T w fb r) (c0 : fc w fb r 0 = some (.int .i64 24)) (rl : RL w fb r lb n cap t) (lt : t < T) : Stk sh B N T w fb r lb n cap t := ⟨h.ee, h.wt, h.bw, h.nn, h.row, c0, rl, lt⟩
abbrev MCh (B : Nat) (w : World) (k : Nat) (U : TypeId) (j : Nat) : Prop := w.heap.size ≤ k ∨ (EI.ty U (j % kd.sz U) ∈ effM ∧ B ≤ k)
theorem mch_np (h : Eff (MCh B w) w w') : Eff NPc w w' := h.mono fun k U j hk hc => by
  rcases hc with hc | hc
  · omega
  · intro hx
    have h1 : ∀ q ∈ prot, EI.ty q.1 q.2 ∉ effM := by decide
    exact h1 _ hx hc.1
theorem leaf12_ty {fb r : Nat} (h : At sh B N T w fb r) (c0 : fc w fb r 0 = some (.int .i64 12)) :
    Calls Tryz.prog 67 #[.pointer (some ⟨sh.pe, 0, none⟩), .pointer (some ⟨fb, r * 18, none⟩)] w fun e w' => ∃ k x, e = .returned (.agg #[.bool true, .int .i64 k, .int .i64 x]) ∧ inK .i64 k ∧ inK .i64 x ∧ WT kd.sig B (N + 2) w' ∧ Eff (MCh B w) w w' ∧ (k = 3 ∨ 0 ≤ x ∧ x < (T : Int)) := by
  obtain ⟨f, hf1, hF, hf3⟩ := id h.row
  have hfl := lt_of_blk hF
  have kR : kd.sig 146 = some cs_r08_result := by kernel_rfl
  have hw0 : (resW0 w).heap.size = w.heap.size + 1 := by simp [resW0]
  have hw00 : (resW0 (resW0 w)).heap.size = w.heap.size + 2 := by simp [resW0]
  have W0 : WE B N (MCh B w) w (resW0 (resW0 w)) := WE.start h.wt 0
  have hk0 : (resW0 w).cell? ⟨fb, r * 18, none⟩ = some (.int .i64 12) := by
    have : (resW0 w).cell? ⟨fb, r * 18 + 0, none⟩ = some (.int .i64 12) := (Eff.alloc1 (fun _ _ _ => False) w _).cell c0 fun _ h => h
    simpa using this
  have h0 : EE sh B N T (resW0 (resW0 w)) := h.ee.mono h.wt (mch_np W0.eff) (Nat.le_refl _)
  -- the world behind the counter
  let P : World → Prop := fun w2 => WE B N (MCh B w) w w2
  refine (leaf12_wrap w sh.pe fb (r * 18) (fun d k x w' => d = true ∧ inK .i64 k ∧ inK .i64 x ∧ (k = 3 ∨ 0 ≤ x ∧ x < (T : Int)) ∧ WT kd.sig B N w' ∧ Eff (MCh B w) w w') hfl (by have := c0; unfold fc at this; simpa using this) ?_).mono ?_
  · refine (table12_any (resW0 w) sh.pe fb (r * 18) T P (by omega) hk0 ?_ ?_).mono ?_
    · refine (tc_add (sh := sh) (h0.ev W0.wt) (safe_GW _) N (resW0 (resW0 w)) #[.pointer (some ⟨sh.pe, 0, none⟩), .int .i64 0, .int .u64 1] rfl (by have := h.bw; omega) (by have := h.nn; simp [sg_add]; omega) W0.wt (Eff.refl _ _) (fun i t ht => ?_) no_post).mono ?_
      · match i, ht with
        | 0, ht => cases ht; exact ⟨_, rfl, env_arg h0 rfl⟩
        | 1, ht => cases ht; exact ⟨_, rfl, 0, rfl, i64_in (by omega)⟩
        | 2, ht => cases ht; exact ⟨_, rfl, 1, rfl, by unfold inK; decide⟩
      · rintro e w2 ⟨v, rfl, g1, g2, ⟨x, rfl, hx⟩, -⟩
        have g3 : Eff (fun k U j => w.heap.size + 2 ≤ k ∨ (EI.ty U (j % kd.sz U) ∈ effM ∧ B ≤ k)) (resW0 (resW0 w)) w2 := g2.mono fun k U j _ hc => by
          rcases hc with hc | ⟨i, o, hm, -⟩ | ⟨o, hm, rfl, hBk⟩
          · simp only [cxOf] at hc; exact .inl (by omega)
          · simp [sg_add, effM] at hm
          · exact .inr ⟨hm, hBk⟩
        have hres : ∀ b, b < w.heap.size + 2 → ∀ c, (resW0 (resW0 w)).heap[b]? = some (.cells c 146 (0, 0)) → w2.heap[b]? = some (.cells c 146 (0, 0)) := fun b hb c hc => by
          obtain ⟨c', e1, -, e3⟩ := g3.cells _ _ _ _ hc
          have : c' = c := Array.ext_getElem? fun j => e3 j (by
            rintro (hx | hx)
            · omega
            · have : ∀ q ∈ effM, ∀ o, q ≠ EI.ty 146 o := by
                intro q hq o hqo
                subst hqo
                simp [effM] at hq
              exact this _ hx.1 _ rfl)
          rw [this] at e1
          exact e1
        refine ⟨x, rfl, ?_, ⟨g1, W0.eff.trans (g3.mono fun k U j _ hc => by rcases hc with hc | hc; exact .inl (by omega); exact .inr hc), hres _ (by omega) _ W0.r0, hres _ (by omega) _ W0.r1⟩⟩
        rw [hw0]
        exact hres _ (by omega) _ W0.r1
    · intro y w2 hp
      have hp : WE B N (MCh B w) w w2 := hp
      have h2 := h.ee.mono h.wt (mch_np hp.eff) (Nat.le_refl _)
      have e19 : ∃ ra nr cr, sh.el 19 = .slice ra nr cr ∧ nr = T := by
        rcases sl_blk h.ee.o19 with hx | ⟨b, n, c, cur, hx, -⟩
        · exact ⟨_, _, _, hx, by have := h.ee.recs; rw [hx] at this; exact this⟩
        · exact ⟨_, _, _, hx, by have := h.ee.recs; rw [hx] at this; exact this⟩
      obtain ⟨ra, nr, cr, e19, rfl⟩ := e19
      refine Task_any w2 sh.pe nr cr ra y nr h2.tasks (by rw [← e19]; exact h2.el 19 (by decide)) _ ?_
      by_cases hin : 0 ≤ y ∧ y < (nr : Int)
      · exact .inl ⟨decide_eq_true hin, hin.1, hin.2, hin.2⟩
      · exact .inr ⟨decide_eq_false hin, by omega⟩
    · rintro e w2 ⟨k, y, w3, hp, rfl, hky, hki, hyi, hb, rfl⟩
      have hp : WE B N (MCh B w) w w3 := hp
      have hz : ∀ w', AllOK w' B N cs_r08_result [.bool true, .int .i64 k, .int .i64 y] := fun w' => ⟨⟨_, rfl⟩, ⟨_, rfl, hki⟩, ⟨_, rfl, hyi⟩, trivial⟩
      have hs3 := hp.eff.size
      have hl1 := lt_of_blk hp.r1
      have hwe : WT kd.sig B N (endW w3 k y) := hp.wt.alloc kR (RowsOK.one (hz _))
      have hee : Eff (MCh B w) w (endW w3 k y) := hp.eff.alloc _
      have b1 : (endW w3 k y).heap[w.heap.size + 1]? = some (.cells #[.bool false, .int .i64 0, .int .i64 0] 146 (0, 0)) := by unfold endW; rw [blk_alloc_old hl1]; exact hp.r1
      have b0 : (endW w3 k y).heap[w.heap.size]? = some (.cells #[.bool false, .int .i64 0, .int .i64 0] 146 (0, 0)) := by unfold endW; rw [blk_alloc_old (by omega)]; exact hp.r0
      have step : ∀ (w2 : World) (b : Nat) (c : Array Value), WT kd.sig B N w2 → Eff (MCh B w) w w2 → w.heap.size ≤ b → w2.heap[b]? = some (.cells c 146 (0, 0)) → WT kd.sig B N (resW w2 b true k y) ∧ Eff (MCh B w) w (resW w2 b true k y) := fun w2 b c g1 g2 g3 hb0 => by
        have hb1 := blk_setCell hb0 0 (.bool true)
        have hb2 := blk_setCell hb1 1 (.int .i64 k)
        exact ⟨((g1.set hb0 kR (i := 0) (ck := .bool) rfl ⟨_, rfl⟩).set hb1 kR (i := 1) (ck := .int .i64) rfl ⟨_, rfl, hki⟩).set hb2 kR (i := 2) (ck := .int .i64) rfl ⟨_, rfl, hyi⟩,
          ((g2.setT hb0 (.inr g3)).setT hb1 (.inr g3)).setT hb2 (.inr g3)⟩
      rw [hw0]
      obtain ⟨s1, s2⟩ := step _ (w.heap.size + 1) _ hwe hee (by omega) b1
      have k0 : (resW (endW w3 k y) (w.heap.size + 1) true k y).heap[w.heap.size]? = some (.cells #[.bool false, .int .i64 0, .int .i64 0] 146 (0, 0)) := by
        unfold resW
        rw [blk_setCell_ne (show w.heap.size ≠ w.heap.size + 1 by omega), blk_setCell_ne (show w.heap.size ≠ w.heap.size + 1 by omega), blk_setCell_ne (show w.heap.size ≠ w.heap.size + 1 by omega)]
        exact b0
      obtain ⟨s3, s4⟩ := step _ w.heap.size _ s1 s2 (by omega) k0
      exact ⟨true, k, y, rfl, k0, rfl, hki, hyi, hky, s3, s4⟩
  · rintro e w' ⟨d, k, x, rfl, rfl, hki, hxi, hkx, s1, s2⟩
    exact ⟨k, x, rfl, hki, hxi, s1.mono (by omega), s2, hkx⟩
end Go.Proofs.YtncnepmgmphanaaGreatDoor

namespace Go.Proofs.YtncnepmgmphanaaGreatDoor
open Go.RowKit
variable [Inhabited SBW] {sh : Sh} {B N T : Nat} {w w' : World}
theorem LineR.mono {N1 N2 : Nat} {fb r : Nat} {k : Int} {e : Ending} (h : LineR T B N1 w fb r k e w') (hN : N1 ≤ N2) : LineR T B N2 w fb r k e w' := by
  obtain ⟨v, e1, g1, g2, g3⟩ := h
  exact ⟨v, e1, g1.mono hN, g2, g3⟩
theorem altsC_FI {N' : Nat} {cx : Cx} {fb r : Nat} {v : Value} {q : AT × Hm} (hw' : WT kd.sig B N' w') (hrow : RowIn kd w B FRT fb r) (hE : Eff (FCh B w fb r) w w') (hk : fc w fb r 0 = some (.int .i64 26)) (hq : q ∈ altsC)
    (hv : ATok kd cx w' B N' q.1 v) (hH : ∀ o t, q.2.at (1, FRT, o) = some t → ∃ u, fc w' fb r o = some u ∧ ATok kd cx w' B N' t u) :
    ∃ d k x, isRes v d k x ∧ (d = false → ∃ ln, FI T w' fb r 26 ln) := by
  obtain ⟨f, hf1, hf2, hf3⟩ := id hrow
  have hk' : fc w' fb r 0 = some (.int .i64 26) := by rw [fc_keep hf2 hE (.inl rfl) (.inl rfl)]; exact hk
  obtain ⟨ln', el, -⟩ := fc_int hw' (hrow.mono hE) (o := 1) (by omega) rfl
  have base : (∃ i, fc w' fb r 9 = some (.int .i64 i) ∧ 0 ≤ i) → FI T w' fb r 26 ln' := fun h => ⟨hk', el, by omega, by omega, fun h => by omega, fun _ => h⟩
  simp only [altsC, List.mem_cons, List.not_mem_nil, or_false] at hq
  rcases hq with rfl | rfl | rfl
  · obtain ⟨d, k, x, hr, hd⟩ := res_ak (n := 1) hv
    exact ⟨d, k, x, hr, fun h => by rw [hd] at h; cases h⟩
  · obtain ⟨d, k, x, hr, hd⟩ := res_ak (n := 0) hv
    obtain ⟨u, e, z, rfl, -, -⟩ := hH 9 (.ixe 10) rfl
    exact ⟨d, k, x, hr, fun _ => ⟨ln', base ⟨z, e, by omega⟩⟩⟩
  · obtain ⟨d, k, x, hr, hd⟩ := res_ak (n := 0) hv
    obtain ⟨u, e, z, rfl, -, h0⟩ := hH 9 (.pos .i64) rfl
    exact ⟨d, k, x, hr, fun _ => ⟨ln', base ⟨z, e, by omega⟩⟩⟩
theorem el10 (h : EE sh B N T w) (hN : N ≤ 68719476736) : slLen (sh.el 10) ≤ 68719476736 := by
  rcases sl_blk h.o10 with hx | ⟨b, n, c, cur, hx, -, -, -, -, h5⟩
  · rw [hx]; show 0 ≤ _; omega
  · rw [hx]; show n ≤ _; omega
theorem leaf_any {fb r rb cr : Nat} (h : At sh B N T w fb r) {k ln : Int} (hL : LI T w sh.pe rb fb r k ln) (hrb : 0 < T → sh.el 19 = .slice (some ⟨rb, 0, none⟩) T cr) :
    Calls Tryz.prog 67 #[.pointer (some ⟨sh.pe, 0, none⟩), .pointer (some ⟨fb, r * 18, none⟩)] w fun e w' => LineR T B (N + 2) w fb r k e w' := by
  have hNN : N ≤ 68719476736 := by have := h.nn; omega
  by_cases h24 : k = 24
  · subst h24
    obtain ⟨lb, n, cap, t, rl, hl⟩ := hL.run rfl
    rcases hl with rfl | ⟨hln, ht0, htT, hpc⟩
    · have o17 := fc_sl h.wt h.row rl.l
      have hnl : n ≤ 68719476736 := by
        rcases sl_blk o17 with hx | ⟨b, n', c, cur, hx, -, -, -, -, h2⟩
        · cases hx
        · cases hx; omega
      have hti : inK .i64 t := by
        rcases sl_blk o17 with hx | ⟨b, n', c, cur, hx, k1, k2, k3, k4, k5⟩
        · cases hx
        cases hx
        obtain ⟨_, e, t', rfl, ht'⟩ := row_cell h.wt (T := 3) (L := [.int .i64]) (by kernel_rfl) k1 k2 (i := n) (j := 0) (by omega) (by show n % 1 = 0; omega) rfl
        rw [rl.t] at e
        cases e
        exact ht'
      have hs := h.ee.shL (.slice (some ⟨lb, 0, none⟩) (n + 1) cap) (.slice none 0 0)
      refine (use_tca (sh := shL sh (.slice (some ⟨lb, 0, none⟩) (n + 1) cap) (.slice none 0 0)) (fb := fb) (r := r) (tca_lf24_23A (hs.ev h.wt) (safe_GW w) (hs.claim h.wt) (hs.probe h.wt) (topI_of (lb := lb) (n := n) (cap := cap) rfl hnl hti (fun w' g => sl_keep o17 g rl.t))) (by decide) (by decide) rfl h.wt h.bw (by have := h.nn; show N + 2 ≤ _; omega) h.row rfl rfl (args2_ok h.ee rfl rfl) (fun o t' ht' => ?_)).mono ?_
      · have hm := Hm.at_mem ht'
        simp only [sg_lf24_23A, List.mem_cons, List.not_mem_nil, or_false, Prod.mk.injEq] at hm
        rcases hm with ⟨⟨-, -, rfl⟩, rfl⟩ | ⟨⟨-, -, rfl⟩, rfl⟩ | ⟨⟨-, -, rfl⟩, rfl⟩
        · exact ⟨_, hL.c0, rfl, i64_in (by omega)⟩
        · exact ⟨_, hL.c1, rfl, i64_in (by omega)⟩
        · exact ⟨_, rl.l, rfl⟩
      · rintro e w' ⟨v, rfl, g1, g2, q, hq, g3, -⟩
        simp only [List.mem_singleton] at hq
        subst hq
        obtain ⟨d, k, x, hr, hd⟩ := res_ak (n := 1) g3
        exact ⟨v, rfl, g1, g2, d, k, x, hr, fun hx => by rw [hd] at hx; cases hx⟩
    · obtain ⟨z, rfl⟩ : ∃ z : Nat, t = z := ⟨t.toNat, by omega⟩
      have S := h.stk hL.c0 rl (by omega)
      by_cases h3 : ln = 3
      · subst h3
        exact leaf24_3 S hL.c1 (hrb (by omega)) (hpc rfl)
      · refine leaf24_line S hL.c1 ?_
        simp only [leafL, List.mem_cons, List.not_mem_nil, or_false] at hln ⊢
        omega
  · by_cases h26 : k = 26
    · subst h26
      obtain ⟨i, hi, hi0⟩ := hL.cli rfl
      by_cases hir : i < slLen (sh.el 10)
      · obtain ⟨z, rfl⟩ : ∃ z : Nat, i = z := ⟨i.toNat, by omega⟩
        refine (use_tca (fb := fb) (r := r) (tca_lf26 (h.ee.ev h.wt) (safe_GW w) (h.ee.claim h.wt) (h.ee.probe h.wt)) (by decide) (by decide) rfl h.wt h.bw (by have := h.nn; show N + 2 ≤ _; omega) h.row rfl rfl (args2_ok h.ee rfl rfl) (fun o t' ht' => ?_)).mono ?_
        · have hm := Hm.at_mem ht'
          simp only [sg_lf26, List.mem_cons, List.not_mem_nil, or_false, Prod.mk.injEq] at hm
          rcases hm with ⟨⟨-, -, rfl⟩, rfl⟩ | ⟨⟨-, -, rfl⟩, rfl⟩
          · exact ⟨_, hL.c0, rfl, i64_in (by omega)⟩
          · exact ⟨_, hi, z, rfl, by show z < slLen (sh.el 10); omega, by have := el10 h.ee hNN; omega⟩
        · rintro e w' ⟨v, rfl, g1, g2, q, hq, g3, g4⟩
          exact ⟨v, rfl, g1, g2, altsC_FI g1 h.row g2 hL.c0 hq g3 g4⟩
      · obtain ⟨i', hi', hik⟩ := fc_int h.wt h.row (o := 9) (by omega) rfl
        rw [hi] at hi'
        cases hi'
        refine (use_tca (fb := fb) (r := r) (tca_lf26_O (h.ee.ev h.wt) (safe_GW w) (h.ee.claim h.wt) (h.ee.probe h.wt)) (by decide) (by decide) rfl h.wt h.bw (by have := h.nn; show N + 2 ≤ _; omega) h.row rfl rfl (args2_ok h.ee rfl rfl) (fun o t' ht' => ?_)).mono ?_
        · have hm := Hm.at_mem ht'
          simp only [sg_lf26_O, List.mem_cons, List.not_mem_nil, or_false, Prod.mk.injEq] at hm
          rcases hm with ⟨⟨-, -, rfl⟩, rfl⟩ | ⟨⟨-, -, rfl⟩, rfl⟩
          · exact ⟨_, hL.c0, rfl, i64_in (by omega)⟩
          · exact ⟨_, hi, i, rfl, hik, by show (slLen (sh.el 10) : Int) ≤ i; omega⟩
        · rintro e w' ⟨v, rfl, g1, g2, q, hq, g3, -⟩
          simp only [List.mem_singleton] at hq
          subst hq
          obtain ⟨d, k, x, hr, hd⟩ := res_ak (n := 1) g3
          exact ⟨v, rfl, g1, g2, d, k, x, hr, fun hx => by rw [hd] at hx; cases hx⟩
    · obtain ⟨s, hs, e1, e2, e3, e4, e5⟩ := leaf_kind (h.ee.ev h.wt) (safe_GW w) (h.ee.claim h.wt) (h.ee.probe h.wt) hL.lo hL.hi h24 h26
      refine (use_tca (fb := fb) (r := r) hs e4 (by rw [e3]; rfl) (by rw [e1]; rfl) h.wt h.bw (by have := h.nn; rw [e5]; omega) h.row (by rw [e1]; rfl) rfl (args2_ok h.ee e1 rfl) (fun o t' ht' => ?_)).mono ?_
      · rw [e3] at ht'
        have hm := Hm.at_mem ht'
        simp only [List.mem_cons, List.not_mem_nil, or_false, Prod.mk.injEq] at hm
        obtain ⟨⟨-, -, rfl⟩, rfl⟩ := hm
        exact ⟨_, hL.c0, rfl, i64_in ⟨by have := hL.lo; omega, by have := hL.hi; omega⟩⟩
      · rintro e w' ⟨v, rfl, g1, g2, q, hq, g3, -⟩
        simp only [List.mem_singleton] at hq
        subst hq
        rw [e5] at g1
        simp only [e2] at g3
        obtain ⟨d, k', x, hr⟩ := res_agg g3
        exact ⟨v, rfl, g1, g2, d, k', x, hr, fun _ => FI.other g1 h.row g2 hL.c0 hL.lo hL.hi h24 h26⟩
end Go.Proofs.YtncnepmgmphanaaGreatDoor
