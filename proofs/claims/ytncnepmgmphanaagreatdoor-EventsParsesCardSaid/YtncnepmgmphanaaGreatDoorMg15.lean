/- Back of a frame (printed by gen_back.py). No condition beside those named. -/
import Derived.Test.YtncnepmgmphanaaGreatDoorMg14
import Derived.Test.YtncnepmgmphanaaGreatDoorMg09
import Derived.Test.YtncnepmgmphanaaGreatDoorMg10
import Derived.Test.YtncnepmgmphanaaGreatDoorMg12
set_option linter.unusedVariables false
set_option linter.unusedSimpArgs false
set_option linter.unusedSectionVars false
namespace Go.Proofs.YtncnepmgmphanaaGreatDoor
section
open Go.RowKit
variable [Inhabited cK] {sh : Sh} {B N T : Nat} {w w' : World}
theorem fI {s : aj} {fb r : Nat} {x y : Int} {t2 t3 : AT} (h : EE sh B N T w) (hps : s.ps = [.ptr 66 0 .env, .ptr bT 0 (.par 1), t2, t3]) {sh' : Sh} (hsh : sh'.pe = sh.pe) (h2 : ∀ cx : Cx, cx.sh = sh' → bD kd cx w B N t2 (.int .i64 x)) (h3 : ∀ cx : Cx, cx.sh = sh' → bD kd cx w B N t3 (.int .i64 y)) :
   ∀ (i : Nat) (t : AT), s.ps[i]? = some t → i ≠ 1 → ∃ v, #[Value.pointer (some ⟨sh.pe, 0, none⟩), Value.pointer (some ⟨fb, r * 18, none⟩), .int .i64 x, .int .i64 y][i]? = some v ∧ bD kd (bQ kd sh' s #[.pointer (some ⟨sh.pe, 0, none⟩), .pointer (some ⟨fb, r * 18, none⟩), .int .i64 x, .int .i64 y] w) w B N t v := by
 intro i t ht hi
 rw [hps] at ht
 match i, ht with
 | 0, ht => cases ht; exact ⟨_, rfl, Jp h hsh⟩
 | 1, ht => exact absurd rfl hi
 | 2, ht => cases ht; exact ⟨_, rfl, h2 _ rfl⟩
 | 3, ht => cases ht; exact ⟨_, rfl, h3 _ rfl⟩
theorem dU {cx : Cx} {x : Int} (hx : bB .i64 x) : bD kd cx w B N (.v (.c (.int .i64))) (.int .i64 x) := ⟨x, rfl, hx⟩
theorem afm {cx : Cx} {x n : Int} (hx : bB .i64 x) (h : x ≠ n) : bD kd cx w B N (.ne .i64 n) (.int .i64 x) := ⟨x, rfl, hx, h⟩
theorem ab4 {cx : Cx} {n : Int} (hx : bB .i64 n) : bD kd cx w B N (.aN .i64 n) (.int .i64 n) := ⟨rfl, hx⟩
theorem aik {cx : Cx} {z o : Nat} (h1 : z < bO (cx.el o)) (h2 : z ≤ 68719476736) : bD kd cx w B N (.fB o) (.int .i64 z) := ⟨z, rfl, h1, h2⟩
theorem abU {G : World → Prop} (hev : aG sh G) (hS : Safe kd ae G) (ag : TC Tryz.prog kd sh B G 146 aD) (ai : TC Tryz.prog kd sh B G 108 aF) {k : Int} (h0 : 0 ≤ k) (h1 : k ≤ 26) (qQ : k ≠ 24) (xx : k ≠ 26) :
   ∃ s, aV Tryz.prog kd sh B G 68 s [(s.res, s.post)] ∧ s.ps = [.ptr 66 0 .env, .ptr bT 0 (.par 1), .v (.c (.int .i64)), .v (.c (.int .i64))] ∧ s.res = .v (.agg af) ∧ s.pre = [((1, bT, 0), .aN .i64 k)] ∧ qO s.aS = true ∧ s.inc = 3 := by
 rcases (show k = 0 ∨ k = 1 ∨ k = 2 ∨ k = 3 ∨ k = 4 ∨ k = 5 ∨ k = 6 ∨ k = 7 ∨ k = 8 ∨ k = 9 ∨ k = 10 ∨ k = 11 ∨ k = 12 ∨ k = 13 ∨ k = 14 ∨ k = 15 ∨ k = 16 ∨ k = 17 ∨ k = 18 ∨ k = 19 ∨ k = 20 ∨ k = 21 ∨ k = 22 ∨ k = 23 ∨ k = 25 by omega) with rfl | rfl | rfl | rfl | rfl | rfl | rfl | rfl | rfl | rfl | rfl | rfl | rfl | rfl | rfl | rfl | rfl | rfl | rfl | rfl | rfl | rfl | rfl | rfl | rfl
 · exact ⟨CY, aZ (adk hev hS ag ai), rfl, rfl, rfl, by decide, rfl⟩
 · exact ⟨Em, aZ (adJ hev hS ag ai), rfl, rfl, rfl, by decide, rfl⟩
 · exact ⟨Eh, aZ (aeJ hev hS ag ai), rfl, rfl, rfl, by decide, rfl⟩
 · exact ⟨Dy, aZ (acW hev hS ag ai), rfl, rfl, rfl, by decide, rfl⟩
 · exact ⟨DX, aZ (ac0 hev hS ag ai), rfl, rfl, rfl, by decide, rfl⟩
 · exact ⟨Ck, aZ (aef hev hS ag ai), rfl, rfl, rfl, by decide, rfl⟩
 · exact ⟨Dg, aZ (ac3 hev hS ag ai), rfl, rfl, rfl, by decide, rfl⟩
 · exact ⟨DN, aZ (ad4 hev hS ag ai), rfl, rfl, rfl, by decide, rfl⟩
 · exact ⟨DW, aZ (aeK hev hS ag ai), rfl, rfl, rfl, by decide, rfl⟩
 · exact ⟨Cz, aZ (ad7 hev hS ag ai), rfl, rfl, rfl, by decide, rfl⟩
 · exact ⟨xZ, aZ (Zx hev hS ag ai), rfl, rfl, rfl, by decide, rfl⟩
 · exact ⟨z8, aZ (Zp hev hS ag ai), rfl, rfl, rfl, by decide, rfl⟩
 · exact ⟨yO, aZ (aaO hev hS ag ai), rfl, rfl, rfl, by decide, rfl⟩
 · exact ⟨xh, aZ (Zc hev hS ag ai), rfl, rfl, rfl, by decide, rfl⟩
 · exact ⟨zf, aZ (abY hev hS ag ai), rfl, rfl, rfl, by decide, rfl⟩
 · exact ⟨zY, aZ (aah hev hS ag ai), rfl, rfl, rfl, by decide, rfl⟩
 · exact ⟨yU, aZ (aaA hev hS ag ai), rfl, rfl, rfl, by decide, rfl⟩
 · exact ⟨yA, aZ (Yr hev hS ag ai), rfl, rfl, rfl, by decide, rfl⟩
 · exact ⟨zS, aZ (ZH hev hS ag ai), rfl, rfl, rfl, by decide, rfl⟩
 · exact ⟨xB, aZ (Zy hev hS ag ai), rfl, rfl, rfl, by decide, rfl⟩
 · exact ⟨zP, aZ (aao hev hS ag ai), rfl, rfl, rfl, by decide, rfl⟩
 · exact ⟨zH, aZ (aaz hev hS ag ai), rfl, rfl, rfl, by decide, rfl⟩
 · exact ⟨yM, aZ (YY hev hS ag ai), rfl, rfl, rfl, by decide, rfl⟩
 · exact ⟨Af, aZ (acr hev hS ag ai), rfl, rfl, rfl, by decide, rfl⟩
 · exact ⟨yu, aZ (abS hev hS ag ai), rfl, rfl, rfl, by decide, rfl⟩
theorem SC {fb r lb n cap t : Nat} (h : rF sh B N T w fb r lb n cap t) {ln x y : Int} (c1 : fc w fb r 1 = some (.int .i64 ln)) (hln : ln ∈ [6, 7, 8, 20, 9, 14, 21, 22]) (h22 : ln = 22 → x ≠ 1) (hx : bB .i64 x) (hy : bB .i64 y) :
   Calls Tryz.prog 68 #[.pointer (some ⟨sh.pe, 0, none⟩), .pointer (some ⟨fb, r * 18, none⟩), .int .i64 x, .int .i64 y] w fun e w' => lD T B (N + 5) w fb r 24 e w' := by
 have hcl := fun a b => (h.ee.kL a b).claim h.wt
 have hpr := fun a b => (h.ee.kL a b).nH h.wt
 have hev := fun a b => (h.ee.kL a b).ev h.wt
 have hS := eP w
 have hU : ∀ q ∈ bA, q ∈ dh ∨ (q ∈ bA ∧ Value.slice (some ⟨lb, 0, none⟩) (n + 1) cap = .slice (some ⟨lb, 0, none⟩) (n + 1) cap ∧ n ≤ n) := fun q hq => .inr ⟨hq, rfl, Nat.le_refl _⟩
 simp only [List.mem_cons, List.not_mem_nil, or_false] at hln
 rcases hln with rfl | rfl | rfl | rfl | rfl | rfl | rfl | rfl
 · exact h.mD c1 (i64_in (by omega)) (Q0 (hev _ _) hS (hcl _ _) (hpr _ _) (h.top (.slice (some ⟨lb, 0, none⟩) (n + 1) cap))) (by decide) rfl (by decide) rfl rfl (fI h.ee rfl rfl (fun _ _ => dU hx) (fun _ _ => dU hy)) rfl hU
 · exact h.mD c1 (i64_in (by omega)) (Rn (hev _ _) hS (hcl _ _) (hpr _ _) (h.top (.slice (some ⟨lb, 0, none⟩) (n + 1) cap))) (by decide) rfl (by decide) rfl rfl (fI h.ee rfl rfl (fun _ _ => dU hx) (fun _ _ => dU hy)) rfl hU
 · exact h.mD c1 (i64_in (by omega)) (Ru (hev _ _) hS (hcl _ _) (hpr _ _) (h.top (.slice (some ⟨lb, 0, none⟩) (n + 1) cap))) (by decide) rfl (by decide) rfl rfl (fI h.ee rfl rfl (fun _ _ => dU hx) (fun _ _ => dU hy)) rfl hU
 · exact h.mD c1 (i64_in (by omega)) (ME (hev _ _) hS (hcl _ _) (hpr _ _) (h.top (.slice (some ⟨lb, 0, none⟩) (n + 1) cap))) (by decide) rfl (by decide) rfl rfl (fI h.ee rfl rfl (fun _ _ => dU hx) (fun _ _ => dU hy)) rfl hU
 · exact h.mD c1 (i64_in (by omega)) (QS (hev _ _) hS (hcl _ _) (hpr _ _) (h.top (.slice (some ⟨lb, 0, none⟩) (n + 1) cap))) (by decide) rfl (by decide) rfl rfl (fI h.ee rfl rfl (fun _ _ => dU hx) (fun _ _ => dU hy)) rfl hU
 · by_cases hn : n = 0
   · exact h.mD (m := 0) c1 (i64_in (by omega)) (Qv (hev _ _) hS (hcl _ _) (hpr _ _) (h.top (.slice (some ⟨lb, 0, none⟩) n cap)) (oV (hev _ _) hS ⟨rfl, rfl⟩ hn)) (by decide) rfl (by decide) rfl rfl (fI h.ee rfl rfl (fun _ _ => dU hx) (fun _ _ => dU hy)) rfl (fun q hq => .inl hq)
   · obtain ⟨m, rfl⟩ : ∃ m, n = m + 1 := ⟨n - 1, by omega⟩
     exact h.mD (m := m) c1 (i64_in (by omega)) (Ps (hev _ _) hS (hcl _ _) (hpr _ _) (h.top (.slice (some ⟨lb, 0, none⟩) (m + 1) cap)) (qa ⟨rfl, rfl⟩ (by omega))) (by decide) rfl (by decide) rfl rfl (fI h.ee rfl rfl (fun _ _ => dU hx) (fun _ _ => dU hy)) rfl (fun q hq => .inr ⟨hq, rfl, by omega⟩)
 · by_cases hn : n = 0
   · exact h.mD (m := 0) c1 (i64_in (by omega)) (N7 (hev _ _) hS (hcl _ _) (hpr _ _) (h.top (.slice (some ⟨lb, 0, none⟩) n cap)) (oV (hev _ _) hS ⟨rfl, rfl⟩ hn)) (by decide) rfl (by decide) rfl rfl (fI h.ee rfl rfl (fun _ _ => dU hx) (fun _ _ => dU hy)) rfl (fun q hq => .inl hq)
   · obtain ⟨m, rfl⟩ : ∃ m, n = m + 1 := ⟨n - 1, by omega⟩
     exact h.mD (m := m) c1 (i64_in (by omega)) (QH (hev _ _) hS (hcl _ _) (hpr _ _) (h.top (.slice (some ⟨lb, 0, none⟩) (m + 1) cap)) (qa ⟨rfl, rfl⟩ (by omega))) (by decide) rfl (by decide) rfl rfl (fI h.ee rfl rfl (fun _ _ => dU hx) (fun _ _ => dU hy)) rfl (fun q hq => .inr ⟨hq, rfl, by omega⟩)
 · by_cases hn : n = 0
   · exact h.mD (m := 0) c1 (i64_in (by omega)) (PH (hev _ _) hS (hcl _ _) (hpr _ _) (h.top (.slice (some ⟨lb, 0, none⟩) n cap)) (oV (hev _ _) hS ⟨rfl, rfl⟩ hn)) (by decide) rfl (by decide) rfl rfl (fI h.ee rfl rfl (fun _ _ => afm hx (h22 rfl)) (fun _ _ => dU hy)) rfl (fun q hq => .inl hq)
   · obtain ⟨m, rfl⟩ : ∃ m, n = m + 1 := ⟨n - 1, by omega⟩
     exact h.mD (m := m) c1 (i64_in (by omega)) (QB (hev _ _) hS (hcl _ _) (hpr _ _) (h.top (.slice (some ⟨lb, 0, none⟩) (m + 1) cap)) (qa ⟨rfl, rfl⟩ (by omega))) (by decide) rfl (by decide) rfl rfl (fI h.ee rfl rfl (fun _ _ => afm hx (h22 rfl)) (fun _ _ => dU hy)) rfl (fun q hq => .inr ⟨hq, rfl, by omega⟩)
theorem XI {fb r rb : Nat} (h : At sh B N T w fb r) {k c x y : Int} (hP : PI sh T w rb fb r k c) (qQ : k ≠ 24) (hx : bB .i64 x) (hy : bB .i64 y) (hv : c = 12 → x = 3 ∨ (0 ≤ y ∧ y < T)) :
   Calls Tryz.prog 68 #[.pointer (some ⟨sh.pe, 0, none⟩), .pointer (some ⟨fb, r * 18, none⟩), .int .i64 x, .int .i64 y] w fun e w' => lD T B (N + 5) w fb r k e w' := by
 have fM : N ≤ 68719476736 := by have := h.nn; omega
 by_cases xx : k = 26
 · subst xx
   obtain ⟨z, ln, hi, hz', hl, h3⟩ := hP.vk rfl
   obtain ⟨kV, hl', hlk⟩ := pQ h.wt h.row (o := 1) (by omega) rfl
   rw [hl] at hl'
   cases hl'
   have hz : z < bO (sh.el 10) ∧ z ≤ 68719476736 := ⟨hz', by have := afa h.ee fM; omega⟩
   suffices hs : Calls Tryz.prog 68 #[.pointer (some ⟨sh.pe, 0, none⟩), .pointer (some ⟨fb, r * 18, none⟩), .int .i64 x, .int .i64 y] w fun e w' => lD T B (N + 2) w fb r 26 e w' by
     exact hs.mono fun e w' hr => hr.mono (by omega)
   by_cases hl3 : ln = 3
   · subst hl3
     rcases hv (h3 rfl) with rfl | ⟨hy0, hyT⟩
     · refine (lZ (fb := fb) (r := r) (Re (h.ee.ev h.wt) (eP w) (h.ee.claim h.wt) (h.ee.nH h.wt)) (by decide) (by decide) rfl h.wt h.bw (by have := h.nn; show N + 2 ≤ _; omega) h.row rfl rfl (fI h.ee rfl rfl (fun _ _ => ab4 hx) (fun _ _ => dU hy)) (fun o t' ht' => ?_)).mono ?_
       · have hm := Hm.at_mem ht'
         simp only [vJ, List.mem_cons, List.not_mem_nil, or_false, Prod.mk.injEq] at hm
         rcases hm with ⟨⟨-, -, rfl⟩, rfl⟩ | ⟨⟨-, -, rfl⟩, rfl⟩ | ⟨⟨-, -, rfl⟩, rfl⟩
         · exact ⟨_, hP.c0, rfl, i64_in (by omega)⟩
         · exact ⟨_, hl, rfl, i64_in (by omega)⟩
         · exact ⟨_, hi, z, rfl, hz⟩
       · rintro e w' ⟨v, rfl, g1, g2, q, hq, g3, g4⟩
         exact ⟨v, rfl, g1, g2, vM g1 h.row g2 hP.c0 hq g3 g4⟩
     · obtain ⟨yn, rfl⟩ : ∃ yn : Nat, y = yn := ⟨y.toNat, by omega⟩
       refine (lZ (fb := fb) (r := r) (X7 (h.ee.ev h.wt) (eP w) (h.ee.claim h.wt) (h.ee.nH h.wt)) (by decide) (by decide) rfl h.wt h.bw (by have := h.nn; show N + 2 ≤ _; omega) h.row rfl rfl (fI h.ee rfl rfl (fun _ _ => dU hx) (fun cx hcx => aik (by have e0 : cx.el = sh.el := congrArg Sh.el hcx; rw [e0, h.ee.recs]; omega) (by have := h.ee.small; omega))) (fun o t' ht' => ?_)).mono ?_
       · have hm := Hm.at_mem ht'
         simp only [yR, List.mem_cons, List.not_mem_nil, or_false, Prod.mk.injEq] at hm
         rcases hm with ⟨⟨-, -, rfl⟩, rfl⟩ | ⟨⟨-, -, rfl⟩, rfl⟩ | ⟨⟨-, -, rfl⟩, rfl⟩
         · exact ⟨_, hP.c0, rfl, i64_in (by omega)⟩
         · exact ⟨_, hl, rfl, i64_in (by omega)⟩
         · exact ⟨_, hi, z, rfl, hz⟩
       · rintro e w' ⟨v, rfl, g1, g2, q, hq, g3, g4⟩
         exact ⟨v, rfl, g1, g2, vM g1 h.row g2 hP.c0 hq g3 g4⟩
   · suffices hs : Calls Tryz.prog 68 #[.pointer (some ⟨sh.pe, 0, none⟩), .pointer (some ⟨fb, r * 18, none⟩), .int .i64 x, .int .i64 y] w fun e w' => lD T B (N + 2) w fb r 26 e w' by exact hs
     · refine (lZ (fb := fb) (r := r) (VV (h.ee.ev h.wt) (eP w) (h.ee.claim h.wt) (h.ee.nH h.wt)) (by decide) (by decide) rfl h.wt h.bw (by have := h.nn; show N + 2 ≤ _; omega) h.row rfl rfl (fI h.ee rfl rfl (fun _ _ => dU hx) (fun _ _ => dU hy)) (fun o t' ht' => ?_)).mono ?_
       · have hm := Hm.at_mem ht'
         simp only [zh, List.mem_cons, List.not_mem_nil, or_false, Prod.mk.injEq] at hm
         rcases hm with ⟨⟨-, -, rfl⟩, rfl⟩ | ⟨⟨-, -, rfl⟩, rfl⟩ | ⟨⟨-, -, rfl⟩, rfl⟩
         · exact ⟨_, hP.c0, rfl, i64_in (by omega)⟩
         · exact ⟨_, hl, ln, rfl, hlk, hl3⟩
         · exact ⟨_, hi, z, rfl, hz⟩
       · rintro e w' ⟨v, rfl, g1, g2, q, hq, g3, g4⟩
         exact ⟨v, rfl, g1, g2, vM g1 h.row g2 hP.c0 hq g3 g4⟩
 · obtain ⟨s, hs, e1, e2, e3, e4, e5⟩ := abU (h.ee.ev h.wt) (eP w) (h.ee.claim h.wt) (h.ee.nH h.wt) hP.lo hP.hi qQ xx
   suffices hs : Calls Tryz.prog 68 #[.pointer (some ⟨sh.pe, 0, none⟩), .pointer (some ⟨fb, r * 18, none⟩), .int .i64 x, .int .i64 y] w fun e w' => lD T B (N + 3) w fb r k e w' by
     exact hs.mono fun e w' hr => hr.mono (by omega)
   refine (lZ (fb := fb) (r := r) hs e4 (by rw [e3]; rfl) (by rw [e1]; rfl) h.wt h.bw (by have := h.nn; rw [e5]; omega) h.row (by rw [e1]; rfl) rfl (fI h.ee e1 rfl (fun _ _ => dU hx) (fun _ _ => dU hy)) (fun o t' ht' => ?_)).mono ?_
   · rw [e3] at ht'
     have hm := Hm.at_mem ht'
     simp only [List.mem_cons, List.not_mem_nil, or_false, Prod.mk.injEq] at hm
     obtain ⟨⟨-, -, rfl⟩, rfl⟩ := hm
     exact ⟨_, hP.c0, rfl, i64_in ⟨by have := hP.lo; omega, by have := hP.hi; omega⟩⟩
   · rintro e w' ⟨v, rfl, g1, g2, q, hq, g3, -⟩
     simp only [List.mem_singleton] at hq
     subst hq
     rw [e5] at g1
     simp only [e2] at g3
     obtain ⟨d, k', x', hr⟩ := TZ g3
     exact ⟨v, rfl, g1, g2, d, k', x', hr, fun _ => FI.other g1 h.row g2 hP.c0 hP.lo hP.hi qQ xx⟩
end
section
open Go.RowKit
variable [Inhabited cK] {sh : Sh} {B N T : Nat} {w w' : World}
theorem agC {G : World → Prop} {lb n cap t : Nat} (hL : ShL sh G lb n cap t) : TC Tryz.prog kd sh B G 156 vD := by
 intro N w args ha hB hl hw hG hp hpre
 obtain ⟨a, rfl⟩ := vK ha
 obtain ⟨fb, r, rfl, -, -, hps, dO⟩ := eu hp (i := 0) rfl rfl
 obtain ⟨-, -, -, v, h4, h5⟩ := hpre 0 118 17 (.qc 0 3 1) rfl
 rw [hps] at h4
 have h5' : v = sh.vals 0 := h5.1
 rw [h5', hL.val] at h4
 refine (gF w fb (r * kd.sz 118 + 0) lb n cap t hL.len h4 (hL.cell w hG)).mono ?_
 rintro e w' ⟨rfl, q, rfl⟩
 exact ⟨_, rfl, hw.drewN q, (Eff.refl _ _).drewN q, ⟨t, rfl, hL.lt, hL.small⟩, gJ⟩
theorem Wu {fb r lb n cap t : Nat} (h : rF sh B N T w fb r lb n cap t) {y : Int} (c1 : fc w fb r 1 = some (.int .i64 22)) (hy : bB .i64 y) :
   Calls Tryz.prog 68 #[.pointer (some ⟨sh.pe, 0, none⟩), .pointer (some ⟨fb, r * 18, none⟩), .int .i64 1, .int .i64 y] w fun e w' => lD T B (N + 5) w fb r 24 e w' := by
 have hs := h.ee.kL (.slice (some ⟨lb, 0, none⟩) (n + 1) cap) (.slice none 0 0)
 have htop : TC Tryz.prog kd (kL sh (.slice (some ⟨lb, 0, none⟩) (n + 1) cap) (.slice none 0 0)) B (GW w) 156 vD :=
   agC (lb := lb) (n := n) (cap := cap) (t := t) ⟨rfl, h.keep, by show t < bO (sh.el 19); rw [h.ee.recs]; exact h.lt, by have := h.ee.small; have := h.lt; omega, h.nle⟩
 refine (lZ (sh := kL sh (.slice (some ⟨lb, 0, none⟩) (n + 1) cap) (.slice none 0 0)) (fb := fb) (r := r) (Oi (hs.ev h.wt) (eP w) (hs.claim h.wt) (hs.nH h.wt) htop) (by decide) (by decide) rfl h.wt h.bw (by have := h.nn; show N + 5 ≤ _; omega) h.row rfl rfl (fI h.ee rfl rfl (fun _ _ => ab4 (i64_in (by omega))) (fun _ _ => dU hy)) (fun o t' ht' => ?_)).mono ?_
 · have hm := Hm.at_mem ht'
   simp only [uB, List.mem_cons, List.not_mem_nil, or_false, Prod.mk.injEq] at hm
   rcases hm with ⟨⟨-, -, rfl⟩, rfl⟩ | ⟨⟨-, -, rfl⟩, rfl⟩ | ⟨⟨-, -, rfl⟩, rfl⟩
   · exact ⟨_, h.c0, rfl, i64_in (by omega)⟩
   · exact ⟨_, c1, rfl, i64_in (by omega)⟩
   · exact ⟨_, h.rl.l, rfl, h.mZ, by show 0 < n + 1; omega⟩
 · rintro e w' ⟨v, rfl, g1, g2, q, hq, g3, g4⟩
   refine ⟨v, rfl, g1, g2, ?_⟩
   have hq' : q ∈ dh := by
     simp only [List.mem_singleton] at hq
     subst hq
     simp [dh]
   exact T9 (T := T) (t := t) (m := 0) h.wt g1 h.row g2 h.bw h.ee.Tg h.c0 h.rl ⟨by omega, by have := h.lt; omega⟩ rfl (.inl hq') g3 g4
end
section
open Go.RowKit
variable [Inhabited cK] {sh : Sh} {B N T : Nat} {w w' : World}
theorem agf {N' : Nat} {cx : Cx} {fb r lb n cap : Nat} {t : Int} {ln : Int} {v : Value} (hw : WT kd.sig B N w) (hrow : eO kd w B bT fb r) (hE : Eff (lT B w fb r) w w')
   (hk : fc w fb r 0 = some (.int .i64 24)) (hL : RL w fb r lb n cap t) (ht : 0 ≤ t ∧ t < T) (h0 : cx.vals 0 = .slice (some ⟨lb, 0, none⟩) (n + 1) cap) (hln : ln = 1 ∨ ln ∈ tX)
   (hv : bD kd cx w' B N' (zx ln).1 v) (hH : ∀ o t, (zx ln).2.at (1, bT, o) = some t → ∃ u, fc w' fb r o = some u ∧ bD kd cx w' B N' t u) :
   ∃ k x, Al v false k x ∧ FI T w' fb r 24 ln := by
 obtain ⟨f, hf1, hf2, hf3⟩ := id hrow
 have jq := rZ hf2 hE
 have mZ := qM hw hrow hL.l
 obtain ⟨d, k, x, hr, hd⟩ := nk (n := 0) hv
 have hd' : d = false := by rw [hd]; rfl
 subst hd'
 refine ⟨k, x, hr, ⟨by rw [qx hf2 hE (.inl rfl) (.inl rfl)]; exact hk, ?_, by omega, by omega, fun _ => ⟨lb, n, cap, t, ⟨?_, l7 mZ jq hL.t, hL.ne⟩, hln.imp_right fun h => ⟨h, ht⟩⟩, fun h => by omega⟩⟩
 · obtain ⟨u, e, hu⟩ := hH 1 (.aN .i64 ln) rfl
   rw [e, hu.1]
 · obtain ⟨u, e, hu⟩ := hH 17 (.val 0) rfl
   have hu' : u = cx.vals 0 := hu
   rw [hu', h0] at e
   exact e
theorem Ju {b i k : Nat} {d : Bool} {x y : Int} (h : i ≠ b) : (dw w b d x y).cell? ⟨i, k, none⟩ = w.cell? ⟨i, k, none⟩ := by
 unfold dw
 rw [dX h, dX h, dX h]
theorem FI.dw {b fb r : Nat} {k ln : Int} {d : Bool} {x y : Int} (h : FI T w fb r k ln) (hf : fb ≠ b) (hl : ∀ lb n cap t, RL w fb r lb n cap t → lb ≠ b) : FI T (dw w b d x y) fb r k ln := by
 have hc : ∀ o, fc (Go.Proofs.YtncnepmgmphanaaGreatDoor.dw w b d x y) fb r o = fc w fb r o := fun o => Ju hf
 refine ⟨by rw [hc]; exact h.c0, by rw [hc]; exact h.c1, h.lo, h.hi, fun hk => ?_, fun hk => by rw [hc]; exact h.vk hk⟩
 obtain ⟨lb, n, cap, t, rl, hh⟩ := h.run hk
 exact ⟨lb, n, cap, t, ⟨by rw [hc]; exact rl.l, by rw [Ju (hl _ _ _ _ rl)]; exact rl.t, rl.ne⟩, hh⟩
theorem acY {fb r lb n cap t rb cr : Nat} (h : rF sh B N T w fb r lb n cap t) (c1 : fc w fb r 1 = some (.int .i64 5)) (hrb : sh.el 19 = .slice (some ⟨rb, 0, none⟩) T cr) (hpc : iQ w sh.pe rb t) {x y : Int} (hx : bB .i64 x) (hy : bB .i64 y) (hv : x = 3 ∨ (0 ≤ y ∧ y < T)) :
   Calls Tryz.prog 68 #[.pointer (some ⟨sh.pe, 0, none⟩), .pointer (some ⟨fb, r * 18, none⟩), .int .i64 x, .int .i64 y] w fun e w' => lD T B (N + 5) w fb r 24 e w' := by
 have kR : kd.sig 146 = some af := by kernel_rfl
 have kI : kd.sig 125 = some fu := by kernel_rfl
 obtain ⟨f, hf1, hF, hf3⟩ := id h.row
 rw [dR] at hf3
 obtain ⟨e, he1, Mr, M9⟩ := id h.ee.blk
 obtain ⟨z, qb, m, mc, p, vp, p2, p0, p9, pv, pz⟩ := hpc
 have e9 : w.cell? ⟨sh.pe, 9, none⟩ = some (sh.el 9) := h.ee.el 9 (by decide)
 have e19 : w.cell? ⟨sh.pe, 19, none⟩ = some (.slice (some ⟨rb, 0, none⟩) T cr) := by rw [← hrb]; exact h.ee.el 19 (by decide)
 rw [e9] at p9
 cases p9
 obtain ⟨ap, np, cp, hvp⟩ : ∃ ap np cp, sh.el 9 = .slice ap np cp := by
   rcases df h.ee.o9 with h | ⟨b, n, c, cur, h, -⟩
   · exact ⟨_, _, _, h⟩
   · exact ⟨_, _, _, h⟩
 have mY := h.ee.mY
 rw [hrb] at mY
 rcases df mY with h' | ⟨b, n', c, cur, h', hb1, hb2, hb3, hb4, hb5⟩
 · cases h'
 cases h'
 have hzc : (t + 1) * 7 ≤ cur.size := by rw [hb4]; exact Nat.mul_le_mul_right 7 (by have := h.lt; omega)
 have hne : fb ≠ rb := fun hh => by subst hh; rw [hF] at hb2; cases hb2
 have hfl := aK hF
 have hrl := aK hb2
 have hel := aK Mr
 have E : Eff (fun _ _ _ => False) w (bg w) := Eff.bL _ _ _
 have hw0 : (bg w).heap.size = w.heap.size + 1 := by simp [bg]
 have R : R5 (bg w) sh.pe fb (r * 18) lb n cap rb T cr np cp ap t p z :=
   ⟨by omega, by omega, by omega, E.cell c1 fun _ h => h, E.cell h.rl.l fun _ h => h, E.cell h.rl.t fun _ h => h, h.nle, by rw [← hvp]; exact E.cell e9 fun _ h => h, E.cell e19 fun _ h => h, h.lt, E.cell p0 fun _ h => h, E.cell p2 fun _ h => h⟩
 obtain ⟨i0, i1, i2, eA0, eA1, eA2, k0, k1, k2, mo⟩ : ∃ i0 i1 i2 : Int, w.cell? ⟨qb, z * 3, none⟩ = some (.int .i64 i0) ∧ w.cell? ⟨qb, z * 3 + 1, none⟩ = some (.int .i64 i1) ∧ w.cell? ⟨qb, z * 3 + 2, none⟩ = some (.int .i64 i2) ∧ bB .i64 i0 ∧ bB .i64 i1 ∧ bB .i64 i2 ∧ qb < w.heap.size := by
   rcases pv with ⟨-, hv⟩ | ⟨q, pb, cap', -, hq, e2, e3⟩
   · cases hv
   · have o9 := h.ee.o9
     rw [e2] at o9
     rcases df o9 with h' | ⟨b, n', c, cpp, h', k1, k2, k3, k4, k5⟩
     · cases h'
     cases h'
     obtain ⟨v, ev, ov⟩ := bZ h.wt (T := 123) (L := [.sl 125 3]) (by kernel_rfl) k1 k2 (i := q) (j := 0) (by omega) (by show q % 1 = 0; omega) rfl
     rw [e3] at ev
     cases ev
     rcases df ov with h' | ⟨b, n', c, ci, h', l1, l2, l3, l4, l5⟩
     · cases h'
     cases h'
     have hyc : (z + 1) * 3 ≤ ci.size := by rw [l4]; exact Nat.mul_le_mul_right 3 (by omega)
     obtain ⟨_, eA0, A0, rfl, hA0⟩ := bZ h.wt kI l1 l2 (i := z * 3) (j := 0) (by omega) (by show (z * 3) % 3 = 0; omega) rfl
     obtain ⟨_, eA1, A1, rfl, hA1⟩ := bZ h.wt kI l1 l2 (i := z * 3 + 1) (j := 1) (by omega) (by show (z * 3 + 1) % 3 = 1; omega) rfl
     obtain ⟨_, eA2, A2, rfl, hA2⟩ := bZ h.wt kI l1 l2 (i := z * 3 + 2) (j := 2) (by omega) (by show (z * 3 + 2) % 3 = 2; omega) rfl
     exact ⟨A0, A1, A2, eA0, eA1, eA2, hA0, hA1, hA2, aK l2⟩
 have pv' : eG (bg w) (.slice ap np cp) p (.slice (some ⟨qb, 0, none⟩) m mc) := by rw [← hvp]; exact pv.mono E
 have hs := h.ee.kL (.slice (some ⟨lb, 0, none⟩) (n + 1) cap) (.slice none 0 0)
 have hz : ∀ w', bJ w' B N af [.bool false, .int .i64 0, .int .i64 0] := fun w' => ⟨⟨_, rfl⟩, ⟨0, rfl, i64_in (by omega)⟩, ⟨0, rfl, i64_in (by omega)⟩, trivial⟩
 have W0 : WT kd.sig B N (bg w) := h.wt.alloc kR (aT.one (hz _))
 have W1 : WT kd.sig B N (bg (bg w)) := W0.alloc kR (aT.one (hz _))
 have hw1 : (bg (bg w)).heap.size = w.heap.size + 2 := by simp [bg]
 have E1 : Eff (fun _ _ _ => False) w (bg (bg w)) := E.alloc _
 have hbw := h.bw
 have b0 : (bg (bg w)).heap[w.heap.size]? = some (.cells #[.bool false, .int .i64 0, .int .i64 0] 146 (0, 0)) := by
   show ((bg w).alloc _).heap[w.heap.size]? = _
   rw [cO (by omega)]
   exact blk_alloc_new w _
 have b1 : (bg (bg w)).heap[w.heap.size + 1]? = some (.cells #[.bool false, .int .i64 0, .int .i64 0] 146 (0, 0)) := by
   rw [← hw0]; exact blk_alloc_new (bg w) _
 have hxy : ∃ tx ty : AT, ((tx = .aN .i64 3 ∧ ty = .v (.c (.int .i64))) ∨ (tx = .v (.c (.int .i64)) ∧ ty = .fB 19)) ∧ (∀ (cx : Cx) w' N', cx.el = sh.el → bD kd cx w' B N' tx (.int .i64 x)) ∧ (∀ (cx : Cx) w' N', cx.el = sh.el → bD kd cx w' B N' ty (.int .i64 y)) := by
   rcases hv with rfl | ⟨hy0, hyT⟩
   · exact ⟨_, _, .inl ⟨rfl, rfl⟩, fun _ _ _ _ => ⟨rfl, hx⟩, fun _ _ _ _ => ⟨y, rfl, hy⟩⟩
   · obtain ⟨yn, rfl⟩ : ∃ yn : Nat, y = yn := ⟨y.toNat, by omega⟩
     exact ⟨_, _, .inr ⟨rfl, rfl⟩, fun _ _ _ _ => ⟨x, rfl, hx⟩, fun cx _ _ hc => ⟨yn, rfl, by rw [hc, h.ee.recs]; omega, by have := h.ee.small; omega⟩⟩
 obtain ⟨tx, ty, hxy, hax, hay⟩ := hxy
 have hcell : w.cell? ⟨fb, r * 18, none⟩ = some (.int .i64 24) := by have := h.c0; unfold fc at this; simpa using this
 have hps : l8 kd (iD tx ty).ps #[.pointer (some ⟨sh.pe, 0, none⟩), .pointer (some ⟨fb, r * 18, none⟩), .int .i64 x, .int .i64 y] 1 = (fb, r) := by
   simp only [l8, iD]
   show (fb, r * 18 / kd.sz bT) = _
   rw [dR, Nat.mul_div_cancel _ (by omega)]
 have hp1 : (gX kd (kL sh (.slice (some ⟨lb, 0, none⟩) (n + 1) cap) (.slice none 0 0)) (iD tx ty) #[.pointer (some ⟨sh.pe, 0, none⟩), .pointer (some ⟨fb, r * 18, none⟩), .int .i64 x, .int .i64 y] (bg w) (bg (bg w))).ps 1 = (fb, r) := by
   simp only [gX]
   rw [if_neg (by omega)]; exact hps
 refine (Rf w sh.pe fb (r * 18) x y (fun d k v w' => d = false ∧ bB .i64 k ∧ bB .i64 v ∧ WT kd.sig B (N + 5) w' ∧ Eff (lT B w fb r) w w' ∧ ∃ kV, FI T w' fb r 24 kV) hfl hcell ?_).mono ?_
 · refine ak7 (sh := kL sh (.slice (some ⟨lb, 0, none⟩) (n + 1) cap) (.slice none 0 0)) (G := GW w) (B := B) (N := N) (bg w) fb r lb n cap rb T cr np cp ap t p z (.int .i64 x) (.int .i64 y) tx ty R qb m mc z pv' rfl pz (by omega) i0 i1 i2 (E.cell eA0 fun _ h => h) (E.cell eA1 fun _ h => h) (E.cell eA2 fun _ h => h) hne (Ne.symm hne) (hs.ev h.wt) (eP w) (hs.claim h.wt) (hs.nH h.wt) (E.mono fun _ _ _ _ h => h.elim) hxy ?_ (by omega) h.nn ?_
   · -- the state behind the instruction
     rintro w1 E1' a hsz s0 s1 s2 s3 s8 s9 s10 s11 ⟨q', rfl⟩ hdef
     have hE1 : Eff (fun _ _ _ => False) (bg (bg w)) (((bg (bg w)).drewN q').alloc (.cells #[.int .i64 i0, .int .i64 i1, .int .i64 i2] 125)) := ((Eff.refl _ _).drewN q').alloc _
     have hIb : (((bg (bg w)).drewN q').alloc (.cells #[.int .i64 i0, .int .i64 i1, .int .i64 i2] 125)).heap[w.heap.size + 2]? = some (.cells #[.int .i64 i0, .int .i64 i1, .int .i64 i2] 125 (0, 0)) := by
       rw [← hw1]; exact blk_alloc_new ((bg (bg w)).drewN q') _
     have Mt := E1.trans hE1
     refine ⟨hsz, hdef, ?_, hE1.mono fun _ _ _ _ h => h.elim, ?_, ?_⟩
     · exact (W1.drewN q').alloc kI (aT.one ⟨⟨i0, rfl, k0⟩, ⟨i1, rfl, k1⟩, ⟨i2, rfl, k2⟩, trivial⟩)
     · unfold Uu
       refine oF (by rw [s0]; exact ⟨sh.pe, 0, by simp [kL], by rw [uT]; omega, h.ee.blk.mono Mt, rfl, rfl⟩) ?_
       refine oF (by rw [s1]; exact ⟨fb, r, by rw [show kd.sz 118 = 18 from dR]; simp, by rw [show kd.sz 118 = 18 from dR]; omega, h.row.mono Mt, hp1, by show fb < (bg (bg w)).heap.size; omega⟩) ?_
       refine oF (by rw [s2]; exact hax _ _ _ rfl) ?_
       refine oF (by rw [s3]; exact hay _ _ _ rfl) ?_
       refine oF (by rw [s8]; exact ⟨(bg w).heap.size, 0, by simp, by decide, ⟨_, by omega, (by rw [hw0]; exact (hE1.blk b1 fun _ _ h => h)), by decide⟩, by simp [gX], by show (bg w).heap.size < (bg (bg w)).heap.size; omega⟩) ?_
       refine oF (by rw [s9]; exact ⟨t, rfl, by show t < bO (sh.el 19); rw [h.ee.recs]; exact h.lt, by have := h.ee.small; have := h.lt; omega⟩) ?_
       refine oF (by rw [s10]; exact ⟨rb, t, by rw [show kd.sz 137 = 7 by kernel_rfl]; simp, by decide, eO.mono ⟨_, hb1, hb2, by rw [show kd.sz 137 = 7 by kernel_rfl]; exact hzc⟩ Mt, trivial⟩) ?_
       refine oF (by rw [s11]; exact ⟨w.heap.size + 2, 0, by rw [hw0]; simp, by decide, ⟨_, by omega, hIb, by show (0 + 1) * kd.sz 125 ≤ 3; decide⟩, by show (bg (bg w)).heap.size ≤ w.heap.size + 2; omega⟩) ?_
       exact aia
     · intro i T' o u hu
       have hm := Hm.at_mem hu
       simp only [iD, List.mem_cons, List.not_mem_nil, or_false, Prod.mk.injEq] at hm
       have hp1' : (gX kd (kL sh (.slice (some ⟨lb, 0, none⟩) (n + 1) cap) (.slice none 0 0)) (iD tx ty) #[.pointer (some ⟨(kL sh (.slice (some ⟨lb, 0, none⟩) (n + 1) cap) (.slice none 0 0)).pe, 0, none⟩), .pointer (some ⟨fb, r * 18, none⟩), .int .i64 x, .int .i64 y] (bg w) ((bg w).alloc (.cells #[.bool false, .int .i64 0, .int .i64 0] 146))).ps 1 = (fb, r) := hp1
       rcases hm with ⟨⟨rfl, rfl, rfl⟩, rfl⟩ | ⟨⟨rfl, rfl, rfl⟩, rfl⟩
       · exact ⟨by rw [hp1']; show fb < (bg (bg w)).heap.size; omega, by rw [show kd.sz 118 = 18 from dR]; omega, by rw [hp1']; exact h.row.mono Mt, _, by rw [hp1', show kd.sz 118 = 18 from dR]; exact Mt.cell c1 fun _ h => h, rfl, i64_in (by omega)⟩
       · exact ⟨by rw [hp1']; show fb < (bg (bg w)).heap.size; omega, by rw [show kd.sz 118 = 18 from dR]; omega, by rw [hp1']; exact h.row.mono Mt, _, by rw [hp1', show kd.sz 118 = 18 from dR]; exact Mt.cell h.rl.l fun _ h => h, rfl⟩
   · -- what is left
     intro Γ H n2 a w2 hk hst
     obtain ⟨q, hq, hk'⟩ := List.any_eq_true.1 hk
     obtain ⟨r1, rp, v, r2, r3⟩ := Jl (by show B ≤ (bg (bg w)).heap.size; omega) hst hk'
     have r1' : n2 ≤ 5 := r1
     have hE2 : Eff (lT B w fb r) w w2 := by
       refine (E1.mono fun _ _ _ _ h => h.elim).trans (hst.aS.mono fun k U j hk hc => ?_)
       rcases hc with hc | ⟨i, o, hm, rfl, rfl, jm⟩ | ⟨o, hm, rfl, jm⟩
       · exact .inl (by have : (bg (bg w)).heap.size ≤ k := hc; omega)
       · rcases List.mem_append.1 hm with hm | hm
         · have := List.all_eq_true.1 (show qO PL = true by decide) _ hm
           simp only [Bool.and_eq_true, decide_eq_true_eq] at this
           obtain ⟨⟨⟨rfl, rfl⟩, g1⟩, g2⟩ := this
           have e1 : ((gX kd (kL sh (.slice (some ⟨lb, 0, none⟩) (n + 1) cap) (.slice none 0 0)) (iD tx ty) #[.pointer (some ⟨sh.pe, 0, none⟩), .pointer (some ⟨fb, r * 18, none⟩), .int .i64 x, .int .i64 y] (bg w) (bg (bg w))).ps 1).2 = r := by rw [hp1]
           have e2 : ((gX kd (kL sh (.slice (some ⟨lb, 0, none⟩) (n + 1) cap) (.slice none 0 0)) (iD tx ty) #[.pointer (some ⟨sh.pe, 0, none⟩), .pointer (some ⟨fb, r * 18, none⟩), .int .i64 x, .int .i64 y] (bg w) (bg (bg w))).ps 1).1 = fb := by rw [hp1]
           have key : ∀ z, z = r → r * 18 < z * kd.sz bT + o ∧ z * kd.sz bT + o < (r + 1) * 18 := by rintro z rfl; rw [dR]; omega
           exact .inr (.inl ⟨e2, (key _ e1).1, (key _ e1).2⟩)
         · obtain ⟨o', -, e⟩ := List.mem_map.1 hm
           cases e
           exact .inl (by show w.heap.size ≤ (bg w).heap.size; omega)
       · rcases List.mem_append.1 hm with hm | hm
         · have := List.all_eq_true.1 (show qO PL = true by decide) _ hm
           simp only [Bool.and_eq_true, decide_eq_true_eq, Bool.not_eq_true'] at this
           refine .inr (.inr ⟨this.1, fun hx => ?_, jm⟩)
           have h2 := List.contains_iff_mem.2 hx
           rw [this.2] at h2
           cases h2
         · obtain ⟨o', -, e⟩ := List.mem_map.1 hm
           cases e
     have hbr : w2.heap[w.heap.size]? = some (.cells #[.bool false, .int .i64 0, .int .i64 0] 146 (0, 0)) := by
       obtain ⟨c', g1, g2, g3⟩ := hst.aS.cells _ _ _ _ b0
       rw [g1]
       have : c' = #[.bool false, .int .i64 0, .int .i64 0] := by
         apply Array.ext_getElem?
         intro j
         refine g3 j ?_
         rintro (hc | ⟨i, o, hm, he, -⟩ | ⟨o, hm, -⟩)
         · have : (bg (bg w)).heap.size ≤ w.heap.size := hc
           omega
         · rcases List.mem_append.1 hm with hm | hm
           · have := List.all_eq_true.1 (show qO PL = true by decide) _ hm
             simp only [Bool.and_eq_true, decide_eq_true_eq] at this
             obtain ⟨⟨⟨rfl, -⟩, -⟩, -⟩ := this
             have he' : w.heap.size = fb := he.trans (congrArg Prod.fst hp1)
             omega
           · obtain ⟨o', -, e⟩ := List.mem_map.1 hm
             cases e
             have : w.heap.size = (bg w).heap.size := he
             omega
         · have := List.all_eq_true.1 (show vQ.all (fun e => match e with | .ty U _ => decide (U ≠ 146) | _ => true) = true by decide) _ hm
           simp at this
       rw [this]
     refine ⟨hst.defers, v, r2, ?_⟩
     have fin : ∀ ln : Int, (ln = 1 ∨ ln ∈ tX) → q = zx ln → ∃ d k v', Ending.returned v = .returned (.agg #[.bool d, .int .i64 k, .int .i64 v']) ∧ w2.heap[w.heap.size]? = some (.cells #[.bool false, .int .i64 0, .int .i64 0] 146 (0, 0)) ∧ d = false ∧ bB .i64 k ∧ bB .i64 v' ∧ WT kd.sig B (N + 5) (dw w2 w.heap.size d k v') ∧ Eff (lT B w fb r) w (dw w2 w.heap.size d k v') ∧ ∃ kV, FI T (dw w2 w.heap.size d k v') fb r 24 kV := fun ln hln mo => by
       subst mo
       obtain ⟨k, x', ⟨rfl, hk1, hk2⟩, fi⟩ := agf (T := T) (t := t) (ln := ln) h.wt h.row hE2 h.c0 h.rl ⟨by omega, by have := h.lt; omega⟩ rfl hln r3 (fun o u hu => by
         obtain ⟨-, -, -, v, k4, k5⟩ := rp 1 bT o u hu
         have key : ∀ p : Nat × Nat, p = (fb, r) → w2.cell? ⟨p.1, p.2 * kd.sz bT + o, none⟩ = some v → fc w2 fb r o = some v := by rintro p rfl hh; rw [dR] at hh; exact hh
         exact ⟨v, key _ hp1 k4, k5⟩)
       have g1 := aR hbr 0 (.bool false)
       have g2 := aR g1 1 (.int .i64 k)
       have aiY : WT kd.sig B (N + 5) w2 := hst.wt.mono (by omega)
       refine ⟨false, k, x', rfl, hbr, rfl, hk1, hk2, ?_, ?_, ln, fi.dw (by omega) fun lb' n' cap' t' rl => ?_⟩
       · exact ((aiY.set hbr kR (i := 0) (ck := .bool) rfl ⟨_, rfl⟩).set g1 kR (i := 1) (ck := .int .i64) rfl ⟨_, rfl, hk1⟩).set g2 kR (i := 2) (ck := .int .i64) rfl ⟨_, rfl, hk2⟩
       · exact ((hE2.dK hbr (.inr (Nat.le_refl _))).dK g1 (.inr (Nat.le_refl _))).dK g2 (.inr (Nat.le_refl _))
       · rintro rfl
         rcases df (qM aiY (h.row.mono hE2) rl.l) with hx | ⟨b, n3, c3, anf, hx, q1, q2, -⟩
         · cases hx
         cases hx
         rw [hbr] at q2
         cases q2
     simp only [AJ, List.mem_cons, List.not_mem_nil, or_false] at hq
     rcases hq with hq | hq
     · exact fin 1 (.inl rfl) hq
     · exact fin 6 (.inr (by decide)) hq
 · rintro e w' ⟨d, k, v, rfl, rfl, h1, h2, h3, h4, h5⟩
   exact ⟨_, rfl, h3, h4, false, k, v, ⟨rfl, h1, h2⟩, fun _ => h5⟩
end
section
open Go.RowKit
variable [Inhabited cK] {sh : Sh} {B N T : Nat} {w w' : World}
theorem aeQ {fb r rb cr : Nat} (h : At sh B N T w fb r) {k c x y : Int} (hP : PI sh T w rb fb r k c) (hrb : sh.el 19 = .slice (some ⟨rb, 0, none⟩) T cr) (hx : bB .i64 x) (hy : bB .i64 y) (hv : c = 12 → x = 3 ∨ (0 ≤ y ∧ y < T)) :
   Calls Tryz.prog 68 #[.pointer (some ⟨sh.pe, 0, none⟩), .pointer (some ⟨fb, r * 18, none⟩), .int .i64 x, .int .i64 y] w fun e w' => lD T B (N + 5) w fb r k e w' := by
 by_cases qQ : k = 24
 · subst qQ
   obtain ⟨lb, n, cap, t, ln, rl, ht0, JC, hl, hln⟩ := hP.run rfl
   obtain ⟨z, rfl⟩ : ∃ z : Nat, t = z := ⟨t.toNat, by omega⟩
   have S := h.Uo hP.c0 rl (by omega)
   rcases hln with hln | ⟨rfl, rfl, hpc⟩
   · by_cases h22 : ln = 22 ∧ x = 1
     · obtain ⟨rfl, rfl⟩ := h22
       exact Wu S hl hy
     · refine SC S hl ?_ (fun e hx1 => h22 ⟨e, hx1⟩) hx hy
       simp only [List.mem_cons, List.not_mem_nil, or_false] at hln ⊢
       omega
   · exact acY S hl hrb hpc hx hy (hv rfl)
 · exact XI h hP qQ hx hy hv
end
end Go.Proofs.YtncnepmgmphanaaGreatDoor
