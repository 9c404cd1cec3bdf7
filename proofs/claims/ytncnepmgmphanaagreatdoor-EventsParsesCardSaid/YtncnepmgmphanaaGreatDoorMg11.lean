/- Leaf, every kind but KAllocate, by types. No condition beside those named. -/
import Derived.Test.YtncnepmgmphanaaGreatDoorMg09
import Derived.Test.YtncnepmgmphanaaGreatDoorMg10
import Derived.Test.YtncnepmgmphanaaGreatDoorMg08
set_option linter.unusedVariables false
set_option linter.unusedSimpArgs false
set_option linter.unusedSectionVars false
namespace Go.Proofs.YtncnepmgmphanaaGreatDoor
section
open Go.RowKit
variable [Inhabited cK] {sh : Sh} {B N T : Nat} {w w' : World}
def Lr : List Int := [2, 3, 4, 10, 11, 12, 13, 15, 16, 17, 18, 19]
structure LI (T : Nat) (w : World) (pe rb fb r : Nat) (k ln : Int) : Prop where
 c0 : fc w fb r 0 = some (.int .i64 k)
 c1 : fc w fb r 1 = some (.int .i64 ln)
 lo : 0 ≤ k
 hi : k ≤ 26
 run : k = 24 → ∃ lb n cap t, RL w fb r lb n cap t ∧ (ln = 23 ∨ (ln ∈ Lr ∧ 0 ≤ t ∧ t < T ∧ (ln = 3 → iQ w pe rb t.toNat)))
 vk : k = 26 → ∃ i, fc w fb r 9 = some (.int .i64 i) ∧ 0 ≤ i
theorem Jp {cx : Cx} (h : EE sh B N T w) (hpe : cx.pe = sh.pe) : bD kd cx w B N (.ptr 66 0 .env) (.pointer (some ⟨sh.pe, 0, none⟩)) :=
 ⟨sh.pe, 0, by simp, by rw [uT]; omega, h.blk, hpe.symm, rfl⟩
theorem dM {s : aj} {fb r : Nat} (h : EE sh B N T w) (hps : s.ps = [.ptr 66 0 .env, .ptr bT 0 (.par 1)]) {sh' : Sh} (hsh : sh'.pe = sh.pe) : ∀ (i : Nat) (t : AT), s.ps[i]? = some t → i ≠ 1 → ∃ v, #[Value.pointer (some ⟨sh.pe, 0, none⟩), Value.pointer (some ⟨fb, r * 18, none⟩)][i]? = some v ∧ bD kd (bQ kd sh' s #[.pointer (some ⟨sh.pe, 0, none⟩), .pointer (some ⟨fb, r * 18, none⟩)] w) w B N t v := by
 intro i t ht hi
 rw [hps] at ht
 match i, ht with
 | 0, ht => cases ht; exact ⟨_, rfl, Jp h hsh⟩
 | 1, ht => exact absurd rfl hi
theorem FI.other {N' : Nat} {fb r : Nat} {k : Int} (hw' : WT kd.sig B N' w') (hrow : eO kd w B bT fb r) (hE : Eff (lT B w fb r) w w') (h0 : fc w fb r 0 = some (.int .i64 k)) (hlo : 0 ≤ k) (hhi : k ≤ 26) (qQ : k ≠ 24) (xx : k ≠ 26) : ∃ kV, FI T w' fb r k kV := by
 obtain ⟨f, hf1, hf2, hf3⟩ := id hrow
 obtain ⟨kV, e, -⟩ := pQ hw' (hrow.mono hE) (o := 1) (by omega) rfl
 exact ⟨kV, by rw [qx hf2 hE (.inl rfl) (.inl rfl)]; exact h0, e, hlo, hhi, fun h => absurd h qQ, fun h => absurd h xx⟩
theorem abI {G : World → Prop} (hev : aG sh G) (hS : Safe kd ae G) (ag : TC Tryz.prog kd sh B G 146 aD) (ai : TC Tryz.prog kd sh B G 108 aF) {k : Int} (h0 : 0 ≤ k) (h1 : k ≤ 26) (qQ : k ≠ 24) (xx : k ≠ 26) :
   ∃ s, aV Tryz.prog kd sh B G 67 s [(s.res, s.post)] ∧ s.ps = [.ptr 66 0 .env, .ptr bT 0 (.par 1)] ∧ s.res = .v (.agg af) ∧ s.pre = [((1, bT, 0), .aN .i64 k)] ∧ qO s.aS = true ∧ s.inc = 2 := by
 rcases (show k = 0 ∨ k = 1 ∨ k = 2 ∨ k = 3 ∨ k = 4 ∨ k = 5 ∨ k = 6 ∨ k = 7 ∨ k = 8 ∨ k = 9 ∨ k = 10 ∨ k = 11 ∨ k = 12 ∨ k = 13 ∨ k = 14 ∨ k = 15 ∨ k = 16 ∨ k = 17 ∨ k = 18 ∨ k = 19 ∨ k = 20 ∨ k = 21 ∨ k = 22 ∨ k = 23 ∨ k = 25 by omega) with rfl | rfl | rfl | rfl | rfl | rfl | rfl | rfl | rfl | rfl | rfl | rfl | rfl | rfl | rfl | rfl | rfl | rfl | rfl | rfl | rfl | rfl | rfl | rfl | rfl
 · exact ⟨Dj, aZ (aeZ hev hS ag ai), rfl, rfl, rfl, by decide, rfl⟩
 · exact ⟨Cu, aZ (aeM hev hS ag ai), rfl, rfl, rfl, by decide, rfl⟩
 · exact ⟨Db, aZ (adU hev hS ag ai), rfl, rfl, rfl, by decide, rfl⟩
 · exact ⟨Cc, aZ (adt hev hS ag ai), rfl, rfl, rfl, by decide, rfl⟩
 · exact ⟨Ct, aZ (adG hev hS ag ai), rfl, rfl, rfl, by decide, rfl⟩
 · exact ⟨Ee, aZ (aeL hev hS ag ai), rfl, rfl, rfl, by decide, rfl⟩
 · exact ⟨Du, aZ (adg hev hS ag ai), rfl, rfl, rfl, by decide, rfl⟩
 · exact ⟨CX, aZ (aeO hev hS ag ai), rfl, rfl, rfl, by decide, rfl⟩
 · exact ⟨BZ, aZ (ae7 hev hS ag ai), rfl, rfl, rfl, by decide, rfl⟩
 · exact ⟨Ea, aZ (adh hev hS ag ai), rfl, rfl, rfl, by decide, rfl⟩
 · exact ⟨yI, aZ (aaK hev hS ag ai), rfl, rfl, rfl, by decide, rfl⟩
 · exact ⟨zi, aZ (ZZ hev hS ag ai), rfl, rfl, rfl, by decide, rfl⟩
 · exact ⟨yz, aZ (Y0 hev hS ag ai), rfl, rfl, rfl, by decide, rfl⟩
 · exact ⟨yH, aZ (YD hev hS ag ai), rfl, rfl, rfl, by decide, rfl⟩
 · exact ⟨yf, aZ (YH hev hS ag ai), rfl, rfl, rfl, by decide, rfl⟩
 · exact ⟨zN, aZ (ZT hev hS ag ai), rfl, rfl, rfl, by decide, rfl⟩
 · exact ⟨xz, aZ (YT hev hS ag ai), rfl, rfl, rfl, by decide, rfl⟩
 · exact ⟨zJ, aZ (abq hev hS ag ai), rfl, rfl, rfl, by decide, rfl⟩
 · exact ⟨y9, aZ (aaI hev hS ag ai), rfl, rfl, rfl, by decide, rfl⟩
 · exact ⟨yx, aZ (ace hev hS ag ai), rfl, rfl, rfl, by decide, rfl⟩
 · exact ⟨zB, aZ (YQ hev hS ag ai), rfl, rfl, rfl, by decide, rfl⟩
 · exact ⟨yZ, aZ (Y4 hev hS ag ai), rfl, rfl, rfl, by decide, rfl⟩
 · exact ⟨y8, aZ (ZC hev hS ag ai), rfl, rfl, rfl, by decide, rfl⟩
 · exact ⟨yV, aZ (YI hev hS ag ai), rfl, rfl, rfl, by decide, rfl⟩
 · exact ⟨xG, aZ (acd hev hS ag ai), rfl, rfl, rfl, by decide, rfl⟩
end
section
open Go.RowKit
variable [Inhabited cK] {sh : Sh} {B N T : Nat} {w w' : World}
def lD (T : Nat) (B N' : Nat) (w : World) (fb r : Nat) (k : Int) (e : Ending) (w' : World) : Prop :=
 ∃ v, e = .returned v ∧ WT kd.sig B N' w' ∧ Eff (lT B w fb r) w w' ∧ ∃ d c x, Al v d c x ∧ (d = false → ∃ kV, FI T w' fb r k kV)
theorem agz {G : World → Prop} {lb n cap : Nat} {t : Int} (h0 : sh.vals 0 = .slice (some ⟨lb, 0, none⟩) (n + 1) cap) (hn : n ≤ 68719476736) (ht : bB .i64 t) (hc : ∀ w, G w → w.cell? ⟨lb, n, none⟩ = some (.int .i64 t)) : TC Tryz.prog kd sh B G 156 Aq := by
 intro N w args ha hB hl hw hG hp hpre
 obtain ⟨a, rfl⟩ := vK ha
 obtain ⟨fb, r, rfl, -, -, hps, dO⟩ := eu hp (i := 0) rfl rfl
 obtain ⟨-, -, -, v, h4, h5⟩ := hpre 0 118 17 (.val 0) rfl
 rw [hps] at h4
 have h5' : v = sh.vals 0 := h5
 rw [h5', h0] at h4
 refine (gF w fb (r * kd.sz 118 + 0) lb n cap t hn h4 (hc w hG)).mono ?_
 rintro e w' ⟨rfl, q, rfl⟩
 exact ⟨_, rfl, hw.drewN q, (Eff.refl _ _).drewN q, ⟨t, rfl, ht⟩, gJ⟩
structure rF (sh : Sh) (B N T : Nat) (w : World) (fb r lb n cap t : Nat) : Prop where
 ee : EE sh B N T w
 wt : WT kd.sig B N w
 bw : B ≤ w.heap.size
 nn : N + 5 ≤ 68719476736
 row : eO kd w B bT fb r
 c0 : fc w fb r 0 = some (.int .i64 24)
 rl : RL w fb r lb n cap t
 lt : t < T
theorem rF.mZ {fb r lb n cap t : Nat} (h : rF sh B N T w fb r lb n cap t) : aU w B N (.sl 3 1) (.slice (some ⟨lb, 0, none⟩) (n + 1) cap) := qM h.wt h.row h.rl.l
theorem rF.nle {fb r lb n cap t : Nat} (h : rF sh B N T w fb r lb n cap t) : n ≤ 68719476736 := by
 have := h.nn
 rcases df h.mZ with h | ⟨b, n', c, cur, h, -, -, -, -, h2⟩
 · cases h
 · cases h; omega
theorem rF.keep {fb r lb n cap t : Nat} (h : rF sh B N T w fb r lb n cap t) (w' : World) (g : GW w w') : w'.cell? ⟨lb, n, none⟩ = some (.int .i64 t) := l7 h.mZ g h.rl.t
theorem rF.top {fb r lb n cap t : Nat} (h : rF sh B N T w fb r lb n cap t) (L1 : Value) : TC Tryz.prog kd (kL sh (.slice (some ⟨lb, 0, none⟩) (n + 1) cap) L1) B (GW w) 156 bU :=
 ah0 (lb := lb) (n := n) (cap := cap) (t := t) ⟨rfl, h.keep, by show t < bO (sh.el 19); rw [h.ee.recs]; exact h.lt, by have := h.ee.small; have := h.lt; omega, h.nle⟩
theorem rF.mD {fb r lb n cap t m : Nat} (h : rF sh B N T w fb r lb n cap t) {ln : Int} (c1 : fc w fb r 1 = some (.int .i64 ln)) (hln : bB .i64 ln) {L1 : Value} {f : FuncId} {s : aj} {alts : List (AT × Hm)} {args : Array Value} (ht : aV Tryz.prog kd (kL sh (.slice (some ⟨lb, 0, none⟩) (n + 1) cap) L1) B (GW w) f s alts) (hE : qO s.aS = true) (hlen : args.size = s.ps.length) (anm : s.inc ≤ 5) (hp1 : s.ps[1]? = some (.ptr bT 0 (.par 1))) (ha1 : args[1]? = some (.pointer (some ⟨fb, r * 18, none⟩)))
   (hargs : ∀ (i : Nat) (t : AT), s.ps[i]? = some t → i ≠ 1 → ∃ v, args[i]? = some v ∧ bD kd (bQ kd (kL sh (.slice (some ⟨lb, 0, none⟩) (n + 1) cap) L1) s args w) w B N t v)
   (hpre : s.pre = [((1, bT, 0), .aN .i64 24), ((1, bT, 1), .aN .i64 ln), ((1, bT, 17), .val 0)]) (ha : ∀ q ∈ alts, q ∈ dh ∨ (q ∈ bA ∧ L1 = .slice (some ⟨lb, 0, none⟩) (m + 1) cap ∧ m ≤ n)) :
   Calls Tryz.prog f args w fun e w' => lD T B (N + s.inc) w fb r 24 e w' := by
 refine (lZ (sh := kL sh (.slice (some ⟨lb, 0, none⟩) (n + 1) cap) L1) (fb := fb) (r := r) ht hE (by rw [hpre]; rfl) hlen h.wt h.bw (by have := h.nn; omega) h.row hp1 ha1 hargs (fun o t' ht' => ?_)).mono ?_
 · rw [hpre] at ht'
   have hm := Hm.at_mem ht'
   simp only [List.mem_cons, List.not_mem_nil, or_false, Prod.mk.injEq] at hm
   rcases hm with ⟨⟨-, -, rfl⟩, rfl⟩ | ⟨⟨-, -, rfl⟩, rfl⟩ | ⟨⟨-, -, rfl⟩, rfl⟩
   · exact ⟨_, h.c0, rfl, i64_in (by omega)⟩
   · exact ⟨_, c1, rfl, hln⟩
   · exact ⟨_, h.rl.l, rfl⟩
 · rintro e w' ⟨v, rfl, g1, g2, q, hq, g3, g4⟩
   refine ⟨v, rfl, g1, g2, ?_⟩
   exact T9 (T := T) (t := t) (m := m) h.wt g1 h.row g2 h.bw h.ee.Tg h.c0 h.rl ⟨by omega, by have := h.lt; omega⟩ rfl (ha q hq) g3 g4
theorem QX {fb r lb n cap t : Nat} (h : rF sh B N T w fb r lb n cap t) {ln : Int} (c1 : fc w fb r 1 = some (.int .i64 ln)) (hln : ln ∈ [2, 4, 10, 11, 12, 13, 15, 16, 17, 18, 19]) :
   Calls Tryz.prog 67 #[.pointer (some ⟨sh.pe, 0, none⟩), .pointer (some ⟨fb, r * 18, none⟩)] w fun e w' => lD T B (N + 2) w fb r 24 e w' := by
 have hcl := fun a b => (h.ee.kL a b).claim h.wt
 have hpr := fun a b => (h.ee.kL a b).nH h.wt
 have hev := fun a b => (h.ee.kL a b).ev h.wt
 have hS := eP w
 have hU : ∀ q ∈ bA, q ∈ dh ∨ (q ∈ bA ∧ Value.slice (some ⟨lb, 0, none⟩) (n + 1) cap = .slice (some ⟨lb, 0, none⟩) (n + 1) cap ∧ n ≤ n) := fun q hq => .inr ⟨hq, rfl, Nat.le_refl _⟩
 simp only [List.mem_cons, List.not_mem_nil, or_false] at hln
 rcases hln with rfl | rfl | rfl | rfl | rfl | rfl | rfl | rfl | rfl | rfl | rfl
 · exact h.mD c1 (i64_in (by omega)) (Q6 (hev _ _) hS (hcl _ _) (hpr _ _) (h.top (.slice (some ⟨lb, 0, none⟩) (n + 1) cap))) (by decide) rfl (by decide) rfl rfl (dM h.ee rfl rfl) rfl hU
 · exact h.mD c1 (i64_in (by omega)) (Sd (hev _ _) hS (hcl _ _) (hpr _ _) (h.top (.slice (some ⟨lb, 0, none⟩) (n + 1) cap))) (by decide) rfl (by decide) rfl rfl (dM h.ee rfl rfl) rfl hU
 · exact h.mD c1 (i64_in (by omega)) (PO (hev _ _) hS (hcl _ _) (hpr _ _) (h.top (.slice (some ⟨lb, 0, none⟩) (n + 1) cap))) (by decide) rfl (by decide) rfl rfl (dM h.ee rfl rfl) rfl hU
 · exact h.mD c1 (i64_in (by omega)) (MU (hev _ _) hS (hcl _ _) (hpr _ _) (h.top (.slice (some ⟨lb, 0, none⟩) (n + 1) cap))) (by decide) rfl (by decide) rfl rfl (dM h.ee rfl rfl) rfl hU
 · exact h.mD c1 (i64_in (by omega)) (OJ (hev _ _) hS (hcl _ _) (hpr _ _) (h.top (.slice (some ⟨lb, 0, none⟩) (n + 1) cap))) (by decide) rfl (by decide) rfl rfl (dM h.ee rfl rfl) rfl hU
 · exact h.mD c1 (i64_in (by omega)) (Ql (hev _ _) hS (hcl _ _) (hpr _ _) (h.top (.slice (some ⟨lb, 0, none⟩) (n + 1) cap))) (by decide) rfl (by decide) rfl rfl (dM h.ee rfl rfl) rfl hU
 · exact h.mD c1 (i64_in (by omega)) (P6 (hev _ _) hS (hcl _ _) (hpr _ _) (h.top (.slice (some ⟨lb, 0, none⟩) (n + 1) cap))) (by decide) rfl (by decide) rfl rfl (dM h.ee rfl rfl) rfl hU
 · exact h.mD c1 (i64_in (by omega)) (Qm (hev _ _) hS (hcl _ _) (hpr _ _) (h.top (.slice (some ⟨lb, 0, none⟩) (n + 1) cap))) (by decide) rfl (by decide) rfl rfl (dM h.ee rfl rfl) rfl hU
 · exact h.mD c1 (i64_in (by omega)) (MP (hev _ _) hS (hcl _ _) (hpr _ _) (h.top (.slice (some ⟨lb, 0, none⟩) (n + 1) cap))) (by decide) rfl (by decide) rfl rfl (dM h.ee rfl rfl) rfl hU
 · by_cases hn : n = 0
   · exact h.mD (m := 0) c1 (i64_in (by omega)) (Pw (hev _ _) hS (hcl _ _) (hpr _ _) (h.top (.slice (some ⟨lb, 0, none⟩) n cap)) (oV (hev _ _) hS ⟨rfl, rfl⟩ hn)) (by decide) rfl (by decide) rfl rfl (dM h.ee rfl rfl) rfl (fun q hq => .inl hq)
   · obtain ⟨m, rfl⟩ : ∃ m, n = m + 1 := ⟨n - 1, by omega⟩
     exact h.mD (m := m) c1 (i64_in (by omega)) (Qg (hev _ _) hS (hcl _ _) (hpr _ _) (h.top (.slice (some ⟨lb, 0, none⟩) (m + 1) cap)) (qa ⟨rfl, rfl⟩ (by omega))) (by decide) rfl (by decide) rfl rfl (dM h.ee rfl rfl) rfl (fun q hq => .inr ⟨hq, rfl, by omega⟩)
 · by_cases hn : n = 0
   · exact h.mD (m := 0) c1 (i64_in (by omega)) (Pq (hev _ _) hS (hcl _ _) (hpr _ _) (h.top (.slice (some ⟨lb, 0, none⟩) n cap)) (oV (hev _ _) hS ⟨rfl, rfl⟩ hn)) (by decide) rfl (by decide) rfl rfl (dM h.ee rfl rfl) rfl (fun q hq => .inl hq)
   · obtain ⟨m, rfl⟩ : ∃ m, n = m + 1 := ⟨n - 1, by omega⟩
     exact h.mD (m := m) c1 (i64_in (by omega)) (Px (hev _ _) hS (hcl _ _) (hpr _ _) (h.top (.slice (some ⟨lb, 0, none⟩) (m + 1) cap)) (qa ⟨rfl, rfl⟩ (by omega))) (by decide) rfl (by decide) rfl rfl (dM h.ee rfl rfl) rfl (fun q hq => .inr ⟨hq, rfl, by omega⟩)
end
section
open Go.RowKit
variable [Inhabited cK] {sh : Sh} {B N T : Nat} {w w' : World}
structure WE (B N : Nat) (Ch : Nat → TypeId → Nat → Prop) (w w1 : World) : Prop where
 wt : WT kd.sig B N w1
 aS : Eff Ch w w1
 r0 : w1.heap[w.heap.size]? = some (.cells #[.bool false, .int .i64 0, .int .i64 0] 146 (0, 0))
 r1 : w1.heap[w.heap.size + 1]? = some (.cells #[.bool false, .int .i64 0, .int .i64 0] 146 (0, 0))
theorem WE.aio {Ch : Nat → TypeId → Nat → Prop} {w1 : World} {b i : Nat} {c : Array Value} {U : TypeId} {L : List CK} {k : IntKind} {x : Int} (h : WE B N Ch w w1) (hb : w.heap[b]? = some (.cells c U (0, 0))) (hU : kd.sig U = some L) (hk : L[i % L.length]? = some (.int k)) (hx : bB k x) (hc : Ch b U i) : WE B N Ch w (w1.setCell ⟨b, i, none⟩ (.int k x)) := by
 obtain ⟨c', h1, -, -⟩ := h.aS.cells _ _ _ _ hb
 have hbl := aK hb
 refine ⟨h.wt.set h1 hU hk ⟨x, rfl, hx⟩, h.aS.dK h1 (.inl hc), ?_, ?_⟩
 · rw [bM (show w.heap.size ≠ b by omega)]; exact h.r0
 · rw [bM (show w.heap.size + 1 ≠ b by omega)]; exact h.r1
theorem WE.start {Ch : Nat → TypeId → Nat → Prop} (hw : WT kd.sig B N w) (q : Nat) : WE B N Ch w ((bg (bg w)).drewN q) := by
 have hz : ∀ w', bJ w' B N af [.bool false, .int .i64 0, .int .i64 0] := fun w' => ⟨⟨_, rfl⟩, ⟨0, rfl, i64_in (by omega)⟩, ⟨0, rfl, i64_in (by omega)⟩, trivial⟩
 have kR : kd.sig 146 = some af := by kernel_rfl
 have h1 : WT kd.sig B N (bg w) := hw.alloc kR (aT.one (hz _))
 have hs : (bg w).heap.size = w.heap.size + 1 := by simp [bg]
 refine ⟨(h1.alloc kR (aT.one (hz _))).drewN q, (((Eff.refl _ w).alloc _).alloc _).drewN q, ?_, ?_⟩
 · show (bg (bg w)).heap[w.heap.size]? = _
   unfold bg
   rw [cO (by simp)]
   exact blk_alloc_new _ _
 · show (bg (bg w)).heap[w.heap.size + 1]? = _
   rw [← hs]
   exact blk_alloc_new _ _
theorem WE.fin {Ch : Nat → TypeId → Nat → Prop} {w1 : World} (h : WE B N Ch w w1) : WT kd.sig B N (dw (dw w1 (w.heap.size + 1) false 0 0) w.heap.size false 0 0) ∧ Eff Ch w (dw (dw w1 (w.heap.size + 1) false 0 0) w.heap.size false 0 0) ∧ (dw w1 (w.heap.size + 1) false 0 0).heap[w.heap.size]? = some (.cells #[.bool false, .int .i64 0, .int .i64 0] 146 (0, 0)) ∧ ∀ b i, b < w.heap.size → (dw (dw w1 (w.heap.size + 1) false 0 0) w.heap.size false 0 0).cell? ⟨b, i, none⟩ = w1.cell? ⟨b, i, none⟩ := by
 have kR : kd.sig 146 = some af := by kernel_rfl
 have step : ∀ (w2 : World) (b : Nat) (c : Array Value), WT kd.sig B N w2 → Eff Ch w w2 → w.heap.size ≤ b → w2.heap[b]? = some (.cells c 146 (0, 0)) → WT kd.sig B N (dw w2 b false 0 0) ∧ Eff Ch w (dw w2 b false 0 0) := fun w2 b c g1 g2 g3 hb0 => by
   have hb1 := aR hb0 0 (.bool false)
   have hb2 := aR hb1 1 (.int .i64 0)
   exact ⟨((g1.set hb0 kR (i := 0) (ck := .bool) rfl ⟨_, rfl⟩).set hb1 kR (i := 1) (ck := .int .i64) rfl ⟨_, rfl, i64_in (by omega)⟩).set hb2 kR (i := 2) (ck := .int .i64) rfl ⟨_, rfl, i64_in (by omega)⟩,
     ((g2.dK hb0 (.inr g3)).dK hb1 (.inr g3)).dK hb2 (.inr g3)⟩
 have k0 : (dw w1 (w.heap.size + 1) false 0 0).heap[w.heap.size]? = some (.cells #[.bool false, .int .i64 0, .int .i64 0] 146 (0, 0)) := by
   unfold dw
   rw [bM (show w.heap.size ≠ w.heap.size + 1 by omega), bM (show w.heap.size ≠ w.heap.size + 1 by omega), bM (show w.heap.size ≠ w.heap.size + 1 by omega)]
   exact h.r0
 obtain ⟨s1, s2⟩ := step w1 (w.heap.size + 1) _ h.wt h.aS (by omega) h.r1
 obtain ⟨s3, s4⟩ := step _ w.heap.size _ s1 s2 (by omega) k0
 refine ⟨s3, s4, k0, fun b i hb => ?_⟩
 unfold dw
 rw [dX (by omega), dX (by omega), dX (by omega), dX (by omega), dX (by omega), dX (by omega)]
theorem adS {fb r lb n cap t rb cr : Nat} (h : rF sh B N T w fb r lb n cap t) (c1 : fc w fb r 1 = some (.int .i64 3)) (hrb : sh.el 19 = .slice (some ⟨rb, 0, none⟩) T cr) (hpc : iQ w sh.pe rb t) :
   Calls Tryz.prog 67 #[.pointer (some ⟨sh.pe, 0, none⟩), .pointer (some ⟨fb, r * 18, none⟩)] w fun e w' => lD T B (N + 2) w fb r 24 e w' := by
 have kF : kd.sig bT = some ax := by kernel_rfl
 have kR : kd.sig 137 = some dJ := by kernel_rfl
 have kI : kd.sig 125 = some fu := by kernel_rfl
 obtain ⟨f, hf1, hF, hf3⟩ := id h.row
 rw [dR] at hf3
 obtain ⟨e, he1, Mr, M9⟩ := id h.ee.blk
 obtain ⟨z, qb, m, mc, p, vp, p2, p0, p9, pv, pz⟩ := hpc
 have e9 : w.cell? ⟨sh.pe, 9, none⟩ = some (sh.el 9) := h.ee.el 9 (by decide)
 have e19 : w.cell? ⟨sh.pe, 19, none⟩ = some (.slice (some ⟨rb, 0, none⟩) T cr) := by rw [← hrb]; exact h.ee.el 19 (by decide)
 rw [e9] at p9
 cases p9
 obtain ⟨ap, np, cp, hvp⟩ : ∃ ap np cp, sh.el 9 = .slice ap np cp := by
   rcases df h.ee.o9 with h | ⟨b, n, c, cur, h, -⟩
   · exact ⟨_, _, _, h⟩
   · exact ⟨_, _, _, h⟩
 have mY := h.ee.mY
 rw [hrb] at mY
 rcases df mY with h' | ⟨b, n', c, cur, h', hb1, hb2, hb3, hb4, hb5⟩
 · cases h'
 cases h'
 have hzc : (t + 1) * 7 ≤ cur.size := by rw [hb4]; exact Nat.mul_le_mul_right 7 (by have := h.lt; omega)
 obtain ⟨_, d3, le, rfl, hle⟩ := bZ h.wt kR hb1 hb2 (i := t * 7 + 3) (j := 3) (by omega) (by show (t * 7 + 3) % 7 = 3; omega) rfl
 have hne : fb ≠ rb := fun hh => by subst hh; rw [hF] at hb2; cases hb2
 have hfl := aK hF
 have E : Eff (fun _ _ _ => False) w (bg w) := Eff.bL _ _ _
 have hw0 : (bg w).heap.size = w.heap.size + 1 := by simp [bg]
 have old : ∀ b, b < w.heap.size → (bg w).heap[b]? = w.heap[b]? := fun b hb => cO hb _
 have fz : ∀ (b i : Nat) (c : Array Value) (U : Nat), w.heap[b]? = some (.cells c U (0, 0)) → (bg w).frozen? ⟨b, i, none⟩ = false := fun b i c U hb => ay ((old b (aK hb)).trans hb) i
 have R : R3 (bg w) sh.pe fb (r * 18) lb n cap rb T cr np cp ap t p z le :=
   ⟨by omega, by have := aK hb2; omega, by have := aK Mr; omega, fz _ _ _ _ hF, fz _ _ _ _ hb2, fz _ _ _ _ hb2, E.cell c1 fun _ h => h, E.cell h.rl.l fun _ h => h, E.cell h.rl.t fun _ h => h, h.nle, by rw [← hvp]; exact E.cell e9 fun _ h => h, E.cell e19 fun _ h => h, h.lt, E.cell p0 fun _ h => h, E.cell p2 fun _ h => h, E.cell d3 fun _ h => h⟩
 -- what may change
 let Ch : Nat → TypeId → Nat → Prop := fun k U j => w.heap.size ≤ k ∨ (k = rb ∧ U = 137) ∨ (k = fb ∧ j = r * 18 + 1)
 have hCh : ∀ {w'}, Eff Ch w w' → Eff (lT B w fb r) w w' := fun he => he.iI fun k c U f' j hk hc => by
   rcases hc with hc | ⟨rfl, rfl⟩ | ⟨rfl, rfl⟩
   · exact .inl hc
   · refine .inr (.inr ⟨by decide, ?_, hb1⟩)
     simp [rU, ae]
   · exact .inr (.inl ⟨rfl, by omega, by omega⟩)
 have sR : ∀ {w1 : World} (i : Nat) (x : Int), (i = 2 ∨ i = 3) → bB .i64 x → WE B N Ch w w1 → WE B N Ch w (w1.setCell ⟨rb, t * 7 + i, none⟩ (.int .i64 x)) := fun i x hi hx h => by
   refine h.aio hb2 kR (k := .i64) ?_ hx (.inr (.inl ⟨rfl, rfl⟩))
   show dJ[(t * 7 + i) % 7]? = _
   rcases hi with rfl | rfl
   · rw [show (t * 7 + 2) % 7 = 2 by omega]; rfl
   · rw [show (t * 7 + 3) % 7 = 3 by omega]; rfl
 have fin : ∀ (w1 : World), WE B N Ch w w1 → WT kd.sig B N (dw (dw (w1.setCell ⟨fb, r * 18 + 1, none⟩ (.int .i64 1)) (bg w).heap.size false 0 0) w.heap.size false 0 0) ∧ Eff (lT B w fb r) w (dw (dw (w1.setCell ⟨fb, r * 18 + 1, none⟩ (.int .i64 1)) (bg w).heap.size false 0 0) w.heap.size false 0 0) ∧ (dw (w1.setCell ⟨fb, r * 18 + 1, none⟩ (.int .i64 1)) (bg w).heap.size false 0 0).heap[w.heap.size]? = some (.cells #[.bool false, .int .i64 0, .int .i64 0] 146 (0, 0)) ∧ ∃ kV, FI T (dw (dw (w1.setCell ⟨fb, r * 18 + 1, none⟩ (.int .i64 1)) (bg w).heap.size false 0 0) w.heap.size false 0 0) fb r 24 kV := fun w1 h1 => by
   rw [hw0]
   obtain ⟨c', g1, g2, g3⟩ := h1.aS.cells _ _ _ _ hF
   have h2 := h1.aio (b := fb) (i := r * 18 + 1) (x := 1) hF kF (k := .i64) (by show ax[(r * 18 + 1) % 18]? = _; rw [show (r * 18 + 1) % 18 = 1 by omega]; rfl) (i64_in (by omega)) (.inr (.inr ⟨rfl, rfl⟩))
   obtain ⟨s1, s2, s3, s4⟩ := h2.fin
   have jq := rZ hF (hCh s2)
   refine ⟨s1, hCh s2, s3, 1, ?_, ?_, by omega, by omega, fun _ => ⟨lb, n, cap, t, ⟨?_, ?_, h.rl.ne⟩, .inl rfl⟩, fun h => by omega⟩
   · rw [qx hF (hCh s2) (.inl rfl) (.inl rfl)]; exact h.c0
   · unfold fc
     rw [s4 _ _ hfl, aa (aR g1 _ _), Array.getElem?_setIfInBounds_self_of_lt (by omega)]
   · unfold fc
     rw [s4 _ _ hfl, aa (aR g1 _ _), Array.getElem?_setIfInBounds_ne (by omega), g3 _ (by
       rintro (hx | ⟨hx, -⟩ | ⟨-, hx⟩)
       · omega
       · exact hne hx
       · omega), ← aa hF]
     exact h.rl.l
   · exact l7 h.mZ jq h.rl.t
 have hz := fun q => WE.start (Ch := Ch) h.wt q
 refine (Rq w sh.pe fb (r * 18) (fun d k x w' => d = false ∧ k = 0 ∧ x = 0 ∧ WT kd.sig B N w' ∧ Eff (lT B w fb r) w w' ∧ ∃ kV, FI T w' fb r 24 kV) hfl (by have := h.c0; unfold fc at this; simpa using this) ?_).mono ?_
 · have use : ∀ (w1 : World), WE B N Ch w w1 → ∃ d k v, Ending.returned (.agg #[.bool false, .int .i64 0, .int .i64 0]) = .returned (.agg #[.bool d, .int .i64 k, .int .i64 v]) ∧ (dw (w1.setCell ⟨fb, r * 18 + 1, none⟩ (.int .i64 1)) (bg w).heap.size false 0 0).heap[w.heap.size]? = some (.cells #[.bool false, .int .i64 0, .int .i64 0] 146 (0, 0)) ∧ (d = false ∧ k = 0 ∧ v = 0 ∧ WT kd.sig B N (dw (dw (w1.setCell ⟨fb, r * 18 + 1, none⟩ (.int .i64 1)) (bg w).heap.size false 0 0) w.heap.size d k v) ∧ Eff (lT B w fb r) w (dw (dw (w1.setCell ⟨fb, r * 18 + 1, none⟩ (.int .i64 1)) (bg w).heap.size false 0 0) w.heap.size d k v) ∧ ∃ kV, FI T (dw (dw (w1.setCell ⟨fb, r * 18 + 1, none⟩ (.int .i64 1)) (bg w).heap.size false 0 0) w.heap.size d k v) fb r 24 kV) := fun w1 h1 => by
     obtain ⟨s1, s2, s3, s4⟩ := fin w1 h1
     exact ⟨false, 0, 0, rfl, s3, rfl, rfl, rfl, s1, s2, s4⟩
   obtain ⟨v, hv⟩ : ∃ v, IntKind.i64.wrap (le - 1) = v := ⟨_, rfl⟩
   obtain ⟨xY, QD⟩ : ∃ v, IntKind.i64.wrap ((z : Int) + 1) = v := ⟨_, rfl⟩
   have ipc : bB .i64 xY := by rw [← QD]; exact gP _ _
   by_cases hl0 : le = 0
   · obtain ⟨A, eA, LX⟩ : ∃ A : Int, w.cell? ⟨qb, z * 3 + 1, none⟩ = some (.int .i64 A) ∧ bB .i64 A := by
       rcases pv with ⟨-, hv⟩ | ⟨q, pb, cap', -, hq, e2, e3⟩
       · cases hv
       · have o9 := h.ee.o9
         rw [e2] at o9
         rcases df o9 with h' | ⟨b, n', c, cpp, h', k1, k2, k3, k4, k5⟩
         · cases h'
         cases h'
         obtain ⟨v, ev, ov⟩ := bZ h.wt (T := 123) (L := [.sl 125 3]) (by kernel_rfl) k1 k2 (i := q) (j := 0) (by omega) (by show q % 1 = 0; omega) rfl
         rw [e3] at ev
         cases ev
         rcases df ov with h' | ⟨b, n', c, ci, h', l1, l2, l3, l4, l5⟩
         · cases h'
         cases h'
         have hyc : (z + 1) * 3 ≤ ci.size := by rw [l4]; exact Nat.mul_le_mul_right 3 (by omega)
         obtain ⟨_, eA, A, rfl, hA⟩ := bZ h.wt kI l1 l2 (i := z * 3 + 1) (j := 1) (by omega) (by show (z * 3 + 1) % 3 = 1; omega) rfl
         exact ⟨A, eA, hA⟩
     have mo : qb < (bg w).heap.size := by
       have : qb < w.heap.size := by
         unfold World.cell? at eA
         split at eA
         · rename_i hh; exact aK hh
         · cases eA
       omega
     obtain ⟨v', hv'⟩ : ∃ v, IntKind.i64.wrap (A - 1) = v := ⟨_, rfl⟩
     have iv' : bB .i64 v' := by rw [← hv']; exact gP _ _
     have pv' : eG (bg w) (.slice ap np cp) p (.slice (some ⟨qb, 0, none⟩) m mc) := by rw [← hvp]; exact pv.mono E
     by_cases hv0 : v' = 0
     · refine (ags (bg w) sh.pe fb (r * 18) lb n cap rb T cr np cp ap t p z le v' R hl0 qb m mc z pv' rfl pz mo A (E.cell eA fun _ h => h) hv' hv0 xY QD hne (Ne.symm hne)).mono ?_
       rintro _ w2 ⟨rfl, q, rfl⟩
       exact use _ (sR 2 xY (.inl rfl) ipc (sR 3 0 (.inr rfl) (i64_in (by omega)) (sR 3 A (.inr rfl) LX (hz q))))
     · refine (ah2 (bg w) sh.pe fb (r * 18) lb n cap rb T cr np cp ap t p z le v' R hl0 qb m mc z pv' rfl pz mo A (E.cell eA fun _ h => h) hv' hv0 hne (Ne.symm hne)).mono ?_
       rintro _ w2 ⟨rfl, q, rfl⟩
       exact use _ (sR 3 v' (.inr rfl) iv' (sR 3 A (.inr rfl) LX (hz q)))
   · have iv : bB .i64 v := by rw [← hv]; exact gP _ _
     by_cases hv0 : v = 0
     · refine (ac7 (bg w) sh.pe fb (r * 18) lb n cap rb T cr np cp ap t p z le v R hl0 hv hv0 xY QD hne (Ne.symm hne)).mono ?_
       rintro _ w2 ⟨rfl, q, rfl⟩
       exact use _ (sR 2 xY (.inl rfl) ipc (sR 3 0 (.inr rfl) (i64_in (by omega)) (hz q)))
     · refine (agy (bg w) sh.pe fb (r * 18) lb n cap rb T cr np cp ap t p z le v R hl0 hv hv0 hne (Ne.symm hne)).mono ?_
       rintro _ w2 ⟨rfl, q, rfl⟩
       exact use _ (sR 3 v (.inr rfl) iv (hz q))
 · rintro e w' ⟨d, k, x, rfl, rfl, rfl, rfl, s1, s2, s3⟩
   exact ⟨_, rfl, s1.mono (by omega), s2, false, 0, 0, ⟨rfl, i64_in (by omega), i64_in (by omega)⟩, fun _ => s3⟩
end
section
open Go.RowKit
variable [Inhabited cK] {sh : Sh} {B N T : Nat} {w w' : World}
def nY (w : World) (k v : Int) : World := w.alloc (.cells #[.bool true, .int .i64 k, .int .i64 v] 146)
set_option maxRecDepth 100000 in
theorem agB (w : World) (k v : Int) : Calls Tryz.prog 95 #[.int .i64 k, .int .i64 v] w fun e w' => e = .returned (.agg #[.bool true, .int .i64 k, .int .i64 v]) ∧ w' = nY w k v := by
 go_enter Tryz.func95, Tryz.ntmps95
 go_wp2_with fail
 refine bodyPost_ret (v := .agg #[.bool true, .int .i64 k, .int .i64 v]) (by simp [results, Tryz.results95, go_sem]) rfl ⟨rfl, rfl⟩
set_option maxRecDepth 100000 in
set_option maxHeartbeats 1000000 in
theorem QN (w : World) (pe fb o : Nat) (T : Int) (P : World → Prop) (hfl : fb < w.heap.size) (hk : w.cell? ⟨fb, o, none⟩ = some (.int .i64 12))
   (hadd : Calls Tryz.prog 141 #[.pointer (some ⟨pe, 0, none⟩), .int .i64 0, .int .u64 1] (bg w) fun e w2 => ∃ x : Int, e = .returned (.int .u64 x) ∧ w2.heap[w.heap.size]? = some (.cells #[.bool false, .int .i64 0, .int .i64 0] 146 (0, 0)) ∧ P w2)
   (hT : ∀ (y : Int) w2, P w2 → Calls Tryz.prog 85 #[.pointer (some ⟨pe, 0, none⟩), .int .i64 y] w2 fun e w' => e = .returned (.bool (decide (0 ≤ y ∧ y < T))) ∧ w' = w2) :
   Calls Tryz.prog 103 #[.pointer (some ⟨pe, 0, none⟩), .pointer (some ⟨fb, o, none⟩)] w fun e w' => ∃ k y w2, P w2 ∧ e = .returned (.agg #[.bool true, .int .i64 k, .int .i64 y]) ∧ (k = 3 ∨ 0 ≤ y ∧ y < T) ∧ bB .i64 k ∧ bB .i64 y ∧ w2.heap[w.heap.size]? = some (.cells #[.bool false, .int .i64 0, .int .i64 0] 146 (0, 0)) ∧ w' = dw (nY w2 k y) w.heap.size true k y := by
 have AD := Lib.hid hadd
 have TK := Lib.hid hT
 have EN := Lib.hid agB
 clear hadd hT
 go_enter Tryz.func103, Tryz.ntmps103
 go_wp2_with fail
 refine AD.out.mono ?_
 rintro e w2 ⟨x, rfl, hb, hp⟩
 have HP := Lib.hid hp
 have HB := Lib.hid hb
 have hsz2 := aK hb
 obtain ⟨y, hy⟩ : ∃ y, y = IntKind.i64.wrap x := ⟨_, rfl⟩
 have hyi : bB .i64 y := by rw [hy]; exact gP _ _
 have HYI := Lib.hid hyi
 have hy' : IntKind.i64.wrap x = y := hy.symm
 clear hp hb hyi hy
 go_wp2_with fail
 refine (TK.out y w2 HP.out).mono ?_
 rintro e w3 ⟨rfl, rfl⟩
 by_cases hin : 0 ≤ y ∧ y < T
 · have hd : decide (0 ≤ y ∧ y < T) = true := decide_eq_true hin
   rw [hd]
   have HIN := Lib.hid hin
   clear hin hd
   go_wp2_with fail
   refine (EN.out _ 1 y).mono ?_
   rintro e w4 ⟨rfl, rfl⟩
   have hb4 : (nY w3 1 y).heap[w.heap.size]? = some (.cells #[.bool false, .int .i64 0, .int .i64 0] 146 (0, 0)) := by
     unfold nY; rw [cO hsz2]; exact HB.out
   obtain ⟨w5, dZ⟩ : ∃ w5, w5 = nY w3 1 y := ⟨_, rfl⟩
   rw [← dZ] at hb4 ⊢
   have HW5 := Lib.hid dZ
   have c0 := aa hb4 0
   have c1 := aa hb4 1
   have c2 := aa hb4 2
   simp at c0 c1 c2
   have f0 := ay hb4 0
   have f1 := ay hb4 1
   have f2 := ay hb4 2
   clear hb4 dZ
   go_wp2_with fail
   refine bodyPost_ret (v := .agg #[.bool true, .int .i64 1, .int .i64 y]) (by simp [results, Tryz.results103, go_sem, c0, c1, c2]) rfl ?_
   exact ⟨1, y, w3, HP.out, rfl, .inr HIN.out, i64_in (by omega), HYI.out, HB.out, by rw [← HW5.out]; rfl⟩
 · have hd : decide (0 ≤ y ∧ y < T) = false := decide_eq_false hin
   rw [hd]
   clear hin hd
   go_wp2_with fail
   refine (EN.out _ 3 0).mono ?_
   rintro e w4 ⟨rfl, rfl⟩
   have hb4 : (nY w3 3 0).heap[w.heap.size]? = some (.cells #[.bool false, .int .i64 0, .int .i64 0] 146 (0, 0)) := by
     unfold nY; rw [cO hsz2]; exact HB.out
   obtain ⟨w5, dZ⟩ : ∃ w5, w5 = nY w3 3 0 := ⟨_, rfl⟩
   rw [← dZ] at hb4 ⊢
   have HW5 := Lib.hid dZ
   have c0 := aa hb4 0
   have c1 := aa hb4 1
   have c2 := aa hb4 2
   simp at c0 c1 c2
   have f0 := ay hb4 0
   have f1 := ay hb4 1
   have f2 := ay hb4 2
   clear hb4 dZ
   go_wp2_with fail
   refine bodyPost_ret (v := .agg #[.bool true, .int .i64 3, .int .i64 0]) (by simp [results, Tryz.results103, go_sem, c0, c1, c2]) rfl ?_
   exact ⟨3, 0, w3, HP.out, rfl, .inl rfl, i64_in (by omega), i64_in (by omega), HB.out, by rw [← HW5.out]; rfl⟩
set_option maxRecDepth 100000 in
set_option maxHeartbeats 1000000 in
theorem S9 (w : World) (pe fb o : Nat) (S : Bool → Int → Int → World → Prop) (hfl : fb < w.heap.size) (hk : w.cell? ⟨fb, o, none⟩ = some (.int .i64 12))
   (h : Calls Tryz.prog 103 #[.pointer (some ⟨pe, 0, none⟩), .pointer (some ⟨fb, o, none⟩)] (bg w) fun e w2 => ∃ d k v, e = .returned (.agg #[.bool d, .int .i64 k, .int .i64 v]) ∧ w2.heap[w.heap.size]? = some (.cells #[.bool false, .int .i64 0, .int .i64 0] 146 (0, 0)) ∧ S d k v (dw w2 w.heap.size d k v)) :
   Calls Tryz.prog 67 #[.pointer (some ⟨pe, 0, none⟩), .pointer (some ⟨fb, o, none⟩)] w fun e w' => ∃ d k v, e = .returned (.agg #[.bool d, .int .i64 k, .int .i64 v]) ∧ S d k v w' := by
 have HH := Lib.hid h
 clear h
 go_enter Tryz.func67, Tryz.ntmps67
 go_wp2_with fail
 refine HH.out.mono ?_
 rintro e w2 ⟨d, k, v, rfl, hb, hs⟩
 have HS := Lib.hid hs
 have c0 := aa hb 0
 have c1 := aa hb 1
 have c2 := aa hb 2
 simp at c0 c1 c2
 have f0 := ay hb 0
 have f1 := ay hb 1
 have f2 := ay hb 2
 clear hb hs
 go_wp2_with fail
 refine bodyPost_ret (v := .agg #[.bool d, .int .i64 k, .int .i64 v]) (by simp [results, Tryz.results67, go_sem, c0, c1, c2]) rfl ?_
 exact ⟨d, k, v, rfl, HS.out⟩
end
end Go.Proofs.YtncnepmgmphanaaGreatDoor
