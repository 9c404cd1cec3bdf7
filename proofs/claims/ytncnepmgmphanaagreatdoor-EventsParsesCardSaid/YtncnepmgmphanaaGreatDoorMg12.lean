/- Leaf, every frame, by types. No condition beside those named. -/
import Derived.Test.YtncnepmgmphanaaGreatDoorMg11
set_option linter.unusedVariables false
set_option linter.unusedSimpArgs false
set_option linter.unusedSectionVars false
namespace Go.Proofs.YtncnepmgmphanaaGreatDoor
section
open Go.RowKit
variable [Inhabited cK] {sh : Sh} {B N T : Nat} {w w' : World}
structure At (sh : Sh) (B N T : Nat) (w : World) (fb r : Nat) : Prop where
 ee : EE sh B N T w
 wt : WT kd.sig B N w
 bw : B ≤ w.heap.size
 nn : N + 5 ≤ 68719476736
 row : eO kd w B bT fb r
theorem At.Uo {fb r lb n cap t : Nat} (h : At sh B N T w fb r) (c0 : fc w fb r 0 = some (.int .i64 24)) (rl : RL w fb r lb n cap t) (lt : t < T) : rF sh B N T w fb r lb n cap t := ⟨h.ee, h.wt, h.bw, h.nn, h.row, c0, rl, lt⟩
abbrev BC (B : Nat) (w : World) (k : Nat) (U : TypeId) (j : Nat) : Prop := w.heap.size ≤ k ∨ (EI.ty U (j % kd.sz U) ∈ aY ∧ B ≤ k)
theorem aaL (h : Eff (BC B w) w w') : Eff ui w w' := h.mono fun k U j hk hc => by
 rcases hc with hc | hc
 · omega
 · intro hx
   have h1 : ∀ q ∈ ae, EI.ty q.1 q.2 ∉ aY := by decide
   exact h1 _ hx hc.1
theorem abE {fb r : Nat} (h : At sh B N T w fb r) (c0 : fc w fb r 0 = some (.int .i64 12)) :
   Calls Tryz.prog 67 #[.pointer (some ⟨sh.pe, 0, none⟩), .pointer (some ⟨fb, r * 18, none⟩)] w fun e w' => ∃ k x, e = .returned (.agg #[.bool true, .int .i64 k, .int .i64 x]) ∧ bB .i64 k ∧ bB .i64 x ∧ WT kd.sig B (N + 2) w' ∧ Eff (BC B w) w w' ∧ (k = 3 ∨ 0 ≤ x ∧ x < (T : Int)) := by
 obtain ⟨f, hf1, hF, hf3⟩ := id h.row
 have hfl := aK hF
 have kR : kd.sig 146 = some af := by kernel_rfl
 have hw0 : (bg w).heap.size = w.heap.size + 1 := by simp [bg]
 have ann : (bg (bg w)).heap.size = w.heap.size + 2 := by simp [bg]
 have W0 : WE B N (BC B w) w (bg (bg w)) := WE.start h.wt 0
 have hk0 : (bg w).cell? ⟨fb, r * 18, none⟩ = some (.int .i64 12) := by
   have : (bg w).cell? ⟨fb, r * 18 + 0, none⟩ = some (.int .i64 12) := (Eff.bL (fun _ _ _ => False) w _).cell c0 fun _ h => h
   simpa using this
 have h0 : EE sh B N T (bg (bg w)) := h.ee.mono h.wt (aaL W0.aS) (Nat.le_refl _)
 -- the world behind the counter
 let P : World → Prop := fun w2 => WE B N (BC B w) w w2
 refine (S9 w sh.pe fb (r * 18) (fun d k x w' => d = true ∧ bB .i64 k ∧ bB .i64 x ∧ (k = 3 ∨ 0 ≤ x ∧ x < (T : Int)) ∧ WT kd.sig B N w' ∧ Eff (BC B w) w w') hfl (by have := c0; unfold fc at this; simpa using this) ?_).mono ?_
 · refine (QN (bg w) sh.pe fb (r * 18) T P (by omega) hk0 ?_ ?_).mono ?_
   · refine (acm (sh := sh) (h0.ev W0.wt) (eP _) N (bg (bg w)) #[.pointer (some ⟨sh.pe, 0, none⟩), .int .i64 0, .int .u64 1] rfl (by have := h.bw; omega) (by have := h.nn; simp [zK]; omega) W0.wt (Eff.refl _ _) (fun i t ht => ?_) gJ).mono ?_
     · match i, ht with
       | 0, ht => cases ht; exact ⟨_, rfl, Jp h0 rfl⟩
       | 1, ht => cases ht; exact ⟨_, rfl, 0, rfl, i64_in (by omega)⟩
       | 2, ht => cases ht; exact ⟨_, rfl, 1, rfl, by unfold bB; decide⟩
     · rintro e w2 ⟨v, rfl, g1, g2, ⟨x, rfl, hx⟩, -⟩
       have g3 : Eff (fun k U j => w.heap.size + 2 ≤ k ∨ (EI.ty U (j % kd.sz U) ∈ aY ∧ B ≤ k)) (bg (bg w)) w2 := g2.mono fun k U j _ hc => by
         rcases hc with hc | ⟨i, o, hm, -⟩ | ⟨o, hm, rfl, jm⟩
         · simp only [bQ] at hc; exact .inl (by omega)
         · simp [zK, aY] at hm
         · exact .inr ⟨hm, jm⟩
       have hres : ∀ b, b < w.heap.size + 2 → ∀ c, (bg (bg w)).heap[b]? = some (.cells c 146 (0, 0)) → w2.heap[b]? = some (.cells c 146 (0, 0)) := fun b hb c hc => by
         obtain ⟨c', e1, -, e3⟩ := g3.cells _ _ _ _ hc
         have : c' = c := Array.ext_getElem? fun j => e3 j (by
           rintro (hx | hx)
           · omega
           · have : ∀ q ∈ aY, ∀ o, q ≠ EI.ty 146 o := by
               intro q hq o hqo
               subst hqo
               simp [aY] at hq
             exact this _ hx.1 _ rfl)
         rw [this] at e1
         exact e1
       refine ⟨x, rfl, ?_, ⟨g1, W0.aS.trans (g3.mono fun k U j _ hc => by rcases hc with hc | hc; exact .inl (by omega); exact .inr hc), hres _ (by omega) _ W0.r0, hres _ (by omega) _ W0.r1⟩⟩
       rw [hw0]
       exact hres _ (by omega) _ W0.r1
   · intro y w2 hp
     have hp : WE B N (BC B w) w w2 := hp
     have h2 := h.ee.mono h.wt (aaL hp.aS) (Nat.le_refl _)
     have e19 : ∃ ra nr cr, sh.el 19 = .slice ra nr cr ∧ nr = T := by
       rcases df h.ee.mY with hx | ⟨b, n, c, cur, hx, -⟩
       · exact ⟨_, _, _, hx, by have := h.ee.recs; rw [hx] at this; exact this⟩
       · exact ⟨_, _, _, hx, by have := h.ee.recs; rw [hx] at this; exact this⟩
     obtain ⟨ra, nr, cr, e19, rfl⟩ := e19
     refine j5 w2 sh.pe nr cr ra y nr h2.tasks (by rw [← e19]; exact h2.el 19 (by decide)) _ ?_
     by_cases hin : 0 ≤ y ∧ y < (nr : Int)
     · exact .inl ⟨decide_eq_true hin, hin.1, hin.2, hin.2⟩
     · exact .inr ⟨decide_eq_false hin, by omega⟩
   · rintro e w2 ⟨k, y, w3, hp, rfl, hky, hki, hyi, hb, rfl⟩
     have hp : WE B N (BC B w) w w3 := hp
     have hz : ∀ w', bJ w' B N af [.bool true, .int .i64 k, .int .i64 y] := fun w' => ⟨⟨_, rfl⟩, ⟨_, rfl, hki⟩, ⟨_, rfl, hyi⟩, trivial⟩
     have hs3 := hp.aS.size
     have hl1 := aK hp.r1
     have hwe : WT kd.sig B N (nY w3 k y) := hp.wt.alloc kR (aT.one (hz _))
     have hee : Eff (BC B w) w (nY w3 k y) := hp.aS.alloc _
     have b1 : (nY w3 k y).heap[w.heap.size + 1]? = some (.cells #[.bool false, .int .i64 0, .int .i64 0] 146 (0, 0)) := by unfold nY; rw [cO hl1]; exact hp.r1
     have b0 : (nY w3 k y).heap[w.heap.size]? = some (.cells #[.bool false, .int .i64 0, .int .i64 0] 146 (0, 0)) := by unfold nY; rw [cO (by omega)]; exact hp.r0
     have step : ∀ (w2 : World) (b : Nat) (c : Array Value), WT kd.sig B N w2 → Eff (BC B w) w w2 → w.heap.size ≤ b → w2.heap[b]? = some (.cells c 146 (0, 0)) → WT kd.sig B N (dw w2 b true k y) ∧ Eff (BC B w) w (dw w2 b true k y) := fun w2 b c g1 g2 g3 hb0 => by
       have hb1 := aR hb0 0 (.bool true)
       have hb2 := aR hb1 1 (.int .i64 k)
       exact ⟨((g1.set hb0 kR (i := 0) (ck := .bool) rfl ⟨_, rfl⟩).set hb1 kR (i := 1) (ck := .int .i64) rfl ⟨_, rfl, hki⟩).set hb2 kR (i := 2) (ck := .int .i64) rfl ⟨_, rfl, hyi⟩,
         ((g2.dK hb0 (.inr g3)).dK hb1 (.inr g3)).dK hb2 (.inr g3)⟩
     rw [hw0]
     obtain ⟨s1, s2⟩ := step _ (w.heap.size + 1) _ hwe hee (by omega) b1
     have k0 : (dw (nY w3 k y) (w.heap.size + 1) true k y).heap[w.heap.size]? = some (.cells #[.bool false, .int .i64 0, .int .i64 0] 146 (0, 0)) := by
       unfold dw
       rw [bM (show w.heap.size ≠ w.heap.size + 1 by omega), bM (show w.heap.size ≠ w.heap.size + 1 by omega), bM (show w.heap.size ≠ w.heap.size + 1 by omega)]
       exact b0
     obtain ⟨s3, s4⟩ := step _ w.heap.size _ s1 s2 (by omega) k0
     exact ⟨true, k, y, rfl, k0, rfl, hki, hyi, hky, s3, s4⟩
 · rintro e w' ⟨d, k, x, rfl, rfl, hki, hxi, hkx, s1, s2⟩
   exact ⟨k, x, rfl, hki, hxi, s1.mono (by omega), s2, hkx⟩
end
section
open Go.RowKit
variable [Inhabited cK] {sh : Sh} {B N T : Nat} {w w' : World}
theorem lD.mono {N1 N2 : Nat} {fb r : Nat} {k : Int} {e : Ending} (h : lD T B N1 w fb r k e w') (hN : N1 ≤ N2) : lD T B N2 w fb r k e w' := by
 obtain ⟨v, e1, g1, g2, g3⟩ := h
 exact ⟨v, e1, g1.mono hN, g2, g3⟩
theorem vM {N' : Nat} {cx : Cx} {fb r : Nat} {v : Value} {q : AT × Hm} (hw' : WT kd.sig B N' w') (hrow : eO kd w B bT fb r) (hE : Eff (lT B w fb r) w w') (hk : fc w fb r 0 = some (.int .i64 26)) (hq : q ∈ fC)
   (hv : bD kd cx w' B N' q.1 v) (hH : ∀ o t, q.2.at (1, bT, o) = some t → ∃ u, fc w' fb r o = some u ∧ bD kd cx w' B N' t u) :
   ∃ d k x, Al v d k x ∧ (d = false → ∃ ln, FI T w' fb r 26 ln) := by
 obtain ⟨f, hf1, hf2, hf3⟩ := id hrow
 have hk' : fc w' fb r 0 = some (.int .i64 26) := by rw [qx hf2 hE (.inl rfl) (.inl rfl)]; exact hk
 obtain ⟨kV, el, -⟩ := pQ hw' (hrow.mono hE) (o := 1) (by omega) rfl
 have base : (∃ i, fc w' fb r 9 = some (.int .i64 i) ∧ 0 ≤ i) → FI T w' fb r 26 kV := fun h => ⟨hk', el, by omega, by omega, fun h => by omega, fun _ => h⟩
 simp only [fC, List.mem_cons, List.not_mem_nil, or_false] at hq
 rcases hq with rfl | rfl | rfl
 · obtain ⟨d, k, x, hr, hd⟩ := nk (n := 1) hv
   exact ⟨d, k, x, hr, fun h => by rw [hd] at h; cases h⟩
 · obtain ⟨d, k, x, hr, hd⟩ := nk (n := 0) hv
   obtain ⟨u, e, z, rfl, -, -⟩ := hH 9 (.fB 10) rfl
   exact ⟨d, k, x, hr, fun _ => ⟨kV, base ⟨z, e, by omega⟩⟩⟩
 · obtain ⟨d, k, x, hr, hd⟩ := nk (n := 0) hv
   obtain ⟨u, e, z, rfl, -, h0⟩ := hH 9 (.pos .i64) rfl
   exact ⟨d, k, x, hr, fun _ => ⟨kV, base ⟨z, e, by omega⟩⟩⟩
theorem afa (h : EE sh B N T w) (hN : N ≤ 68719476736) : bO (sh.el 10) ≤ 68719476736 := by
 rcases df h.pI with hx | ⟨b, n, c, cur, hx, -, -, -, -, h5⟩
 · rw [hx]; show 0 ≤ _; omega
 · rw [hx]; show n ≤ _; omega
theorem aeI {fb r rb cr : Nat} (h : At sh B N T w fb r) {k ln : Int} (hL : LI T w sh.pe rb fb r k ln) (hrb : 0 < T → sh.el 19 = .slice (some ⟨rb, 0, none⟩) T cr) :
   Calls Tryz.prog 67 #[.pointer (some ⟨sh.pe, 0, none⟩), .pointer (some ⟨fb, r * 18, none⟩)] w fun e w' => lD T B (N + 2) w fb r k e w' := by
 have fM : N ≤ 68719476736 := by have := h.nn; omega
 by_cases qQ : k = 24
 · subst qQ
   obtain ⟨lb, n, cap, t, rl, hl⟩ := hL.run rfl
   rcases hl with rfl | ⟨hln, ht0, JC, hpc⟩
   · have mZ := qM h.wt h.row rl.l
     have hnl : n ≤ 68719476736 := by
       rcases df mZ with hx | ⟨b, n', c, cur, hx, -, -, -, -, h2⟩
       · cases hx
       · cases hx; omega
     have hti : bB .i64 t := by
       rcases df mZ with hx | ⟨b, n', c, cur, hx, k1, k2, k3, k4, k5⟩
       · cases hx
       cases hx
       obtain ⟨_, e, t', rfl, ht'⟩ := bZ h.wt (T := 3) (L := [.int .i64]) (by kernel_rfl) k1 k2 (i := n) (j := 0) (by omega) (by show n % 1 = 0; omega) rfl
       rw [rl.t] at e
       cases e
       exact ht'
     have hs := h.ee.kL (.slice (some ⟨lb, 0, none⟩) (n + 1) cap) (.slice none 0 0)
     refine (lZ (sh := kL sh (.slice (some ⟨lb, 0, none⟩) (n + 1) cap) (.slice none 0 0)) (fb := fb) (r := r) (Mi (hs.ev h.wt) (eP w) (hs.claim h.wt) (hs.nH h.wt) (agz (lb := lb) (n := n) (cap := cap) rfl hnl hti (fun w' g => l7 mZ g rl.t))) (by decide) (by decide) rfl h.wt h.bw (by have := h.nn; show N + 2 ≤ _; omega) h.row rfl rfl (dM h.ee rfl rfl) (fun o t' ht' => ?_)).mono ?_
     · have hm := Hm.at_mem ht'
       simp only [kz, List.mem_cons, List.not_mem_nil, or_false, Prod.mk.injEq] at hm
       rcases hm with ⟨⟨-, -, rfl⟩, rfl⟩ | ⟨⟨-, -, rfl⟩, rfl⟩ | ⟨⟨-, -, rfl⟩, rfl⟩
       · exact ⟨_, hL.c0, rfl, i64_in (by omega)⟩
       · exact ⟨_, hL.c1, rfl, i64_in (by omega)⟩
       · exact ⟨_, rl.l, rfl⟩
     · rintro e w' ⟨v, rfl, g1, g2, q, hq, g3, -⟩
       simp only [List.mem_singleton] at hq
       subst hq
       obtain ⟨d, k, x, hr, hd⟩ := nk (n := 1) g3
       exact ⟨v, rfl, g1, g2, d, k, x, hr, fun hx => by rw [hd] at hx; cases hx⟩
   · obtain ⟨z, rfl⟩ : ∃ z : Nat, t = z := ⟨t.toNat, by omega⟩
     have S := h.Uo hL.c0 rl (by omega)
     by_cases h3 : ln = 3
     · subst h3
       exact adS S hL.c1 (hrb (by omega)) (hpc rfl)
     · refine QX S hL.c1 ?_
       simp only [Lr, List.mem_cons, List.not_mem_nil, or_false] at hln ⊢
       omega
 · by_cases xx : k = 26
   · subst xx
     obtain ⟨i, hi, hi0⟩ := hL.vk rfl
     by_cases hir : i < bO (sh.el 10)
     · obtain ⟨z, rfl⟩ : ∃ z : Nat, i = z := ⟨i.toNat, by omega⟩
       refine (lZ (fb := fb) (r := r) (acF (h.ee.ev h.wt) (eP w) (h.ee.claim h.wt) (h.ee.nH h.wt)) (by decide) (by decide) rfl h.wt h.bw (by have := h.nn; show N + 2 ≤ _; omega) h.row rfl rfl (dM h.ee rfl rfl) (fun o t' ht' => ?_)).mono ?_
       · have hm := Hm.at_mem ht'
         simp only [Ht, List.mem_cons, List.not_mem_nil, or_false, Prod.mk.injEq] at hm
         rcases hm with ⟨⟨-, -, rfl⟩, rfl⟩ | ⟨⟨-, -, rfl⟩, rfl⟩
         · exact ⟨_, hL.c0, rfl, i64_in (by omega)⟩
         · exact ⟨_, hi, z, rfl, by show z < bO (sh.el 10); omega, by have := afa h.ee fM; omega⟩
       · rintro e w' ⟨v, rfl, g1, g2, q, hq, g3, g4⟩
         exact ⟨v, rfl, g1, g2, vM g1 h.row g2 hL.c0 hq g3 g4⟩
     · obtain ⟨i', hi', hik⟩ := pQ h.wt h.row (o := 9) (by omega) rfl
       rw [hi] at hi'
       cases hi'
       refine (lZ (fb := fb) (r := r) (XX (h.ee.ev h.wt) (eP w) (h.ee.claim h.wt) (h.ee.nH h.wt)) (by decide) (by decide) rfl h.wt h.bw (by have := h.nn; show N + 2 ≤ _; omega) h.row rfl rfl (dM h.ee rfl rfl) (fun o t' ht' => ?_)).mono ?_
       · have hm := Hm.at_mem ht'
         simp only [mM, List.mem_cons, List.not_mem_nil, or_false, Prod.mk.injEq] at hm
         rcases hm with ⟨⟨-, -, rfl⟩, rfl⟩ | ⟨⟨-, -, rfl⟩, rfl⟩
         · exact ⟨_, hL.c0, rfl, i64_in (by omega)⟩
         · exact ⟨_, hi, i, rfl, hik, by show (bO (sh.el 10) : Int) ≤ i; omega⟩
       · rintro e w' ⟨v, rfl, g1, g2, q, hq, g3, -⟩
         simp only [List.mem_singleton] at hq
         subst hq
         obtain ⟨d, k, x, hr, hd⟩ := nk (n := 1) g3
         exact ⟨v, rfl, g1, g2, d, k, x, hr, fun hx => by rw [hd] at hx; cases hx⟩
   · obtain ⟨s, hs, e1, e2, e3, e4, e5⟩ := abI (h.ee.ev h.wt) (eP w) (h.ee.claim h.wt) (h.ee.nH h.wt) hL.lo hL.hi qQ xx
     refine (lZ (fb := fb) (r := r) hs e4 (by rw [e3]; rfl) (by rw [e1]; rfl) h.wt h.bw (by have := h.nn; rw [e5]; omega) h.row (by rw [e1]; rfl) rfl (dM h.ee e1 rfl) (fun o t' ht' => ?_)).mono ?_
     · rw [e3] at ht'
       have hm := Hm.at_mem ht'
       simp only [List.mem_cons, List.not_mem_nil, or_false, Prod.mk.injEq] at hm
       obtain ⟨⟨-, -, rfl⟩, rfl⟩ := hm
       exact ⟨_, hL.c0, rfl, i64_in ⟨by have := hL.lo; omega, by have := hL.hi; omega⟩⟩
     · rintro e w' ⟨v, rfl, g1, g2, q, hq, g3, -⟩
       simp only [List.mem_singleton] at hq
       subst hq
       rw [e5] at g1
       simp only [e2] at g3
       obtain ⟨d, k', x, hr⟩ := TZ g3
       exact ⟨v, rfl, g1, g2, d, k', x, hr, fun _ => FI.other g1 h.row g2 hL.c0 hL.lo hL.hi qQ xx⟩
end
end Go.Proofs.YtncnepmgmphanaaGreatDoor
