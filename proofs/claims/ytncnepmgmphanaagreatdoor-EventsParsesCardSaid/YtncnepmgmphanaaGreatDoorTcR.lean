/- A checker of the types of a function's code, tenth part: a function whose result lies in a cell of its own, and what is known of its head. Plain; no condition. -/
import Derived.Test.YtncnepmgmphanaaGreatDoorTcS
set_option linter.unusedVariables false
set_option linter.unusedSimpArgs false
set_option linter.unusedSectionVars false
namespace Go.Proofs.YtncnepmgmphanaaGreatDoor
open Go.RowKit
variable {P : Program} {kd : Kd} {cx : Cx} {w w' w0 : World} {B N N' : Nat} {E : List EI} {FT : FuncId → Option aj} {FA : FuncId → Option (aj × List (AT × Hm))} {G : World → Prop} {a : Act} {nt : Nat}
def Lt (Γ : Gm) (H : Hm) (x : Nat) : Option AT := match mE Γ.at [] (.tmp x) with
 | some (.ptr U q (.par i)) => H.at (i, U, q)
 | _ => none
def wG : AT → Option (List Int)
 | .hd ks => some ks
 | .aN .i64 n => some [n]
 | .kb b => some [if b then 1 else 0]
 | _ => none
def zF (P : Program) (kd : Kd) (Γ : Gm) (H : Hm) : ResultVar → Option AT
 | .tmp t => mE Γ.at [] (.tmp t)
 | .cell x T => match vG P kd Γ (.cell x T), kd T, (Lt Γ H x).bind wG with
   | some _, some (.agg (k :: L)), some ks => some (.v (.ak (k :: L) ks))
   | r, _, _ => r
theorem KZ {t : AT} {ks : List Int} {v : Value} (h : wG t = some ks) (hv : bD kd cx w B N t v) : ∃ n ∈ ks, v = .int .i64 n ∨ v = .bool (decide (n = 1)) := by
 unfold wG at h
 split at h
 · cases h; exact hv
 · cases h; exact ⟨_, by simp, .inl hv.1⟩
 · rename_i b
   cases h
   have e : v = .bool b := hv
   exact ⟨if b then 1 else 0, by simp, .inr (by rw [e]; cases b <;> rfl)⟩
 · cases h
theorem aeA {Γ : Gm} {H : Hm} (hs : dB kd cx E B w0 nt N H Γ.at a w) {x : Nat} {t : AT} (h : Lt Γ H x = some t) : ∃ b o v, a.eval (.tmp x) = .pointer (some ⟨b, o, none⟩) ∧ w.cell? ⟨b, o, none⟩ = some v ∧ bD kd cx w B N t v := by
 unfold Lt at h
 split at h
 · rename_i U q i hx
   obtain ⟨b, r, e, h1, h2, h3⟩ := iF (K := []) hs.lk (by simp) hx
   obtain ⟨g1, g2, g3, v, g4, g5⟩ := hs.hm i U q t h
   rw [h3.1] at g4
   exact ⟨b, _, v, e, g4, g5⟩
 · cases h
theorem JI {Γ : Gm} {H : Hm} (hs : dB kd cx E B w0 nt N H Γ.at a w) {r : ResultVar} {t : AT} (h : zF P kd Γ H r = some t) : ∃ v, (pE a.tmps r).run P w = .ok v w ∧ bD kd cx w B N t v := by
 cases r with
 | tmp s => exact ⟨_, rfl, iF (K := []) (x := .tmp s) hs.lk (by simp) h⟩
 | cell x T =>
   simp only [zF] at h
   split at h
   · rename_i t0 k L ks h1 h2 h3
     cases h
     cases hp : Lt Γ H x with
     | none => rw [hp] at h3; cases h3
     | some u =>
       rw [hp] at h3
       obtain ⟨b, o, v0, e0, c0, hv0⟩ := aeA hs hp
       obtain ⟨n, hn, hh⟩ := KZ h3 hv0
       simp only [vG] at h1
       split at h1
       · rename_i U q g k' g1 g2
         rw [h2] at g2
         cases g2
         split at h1
         · rename_i hc
           simp only [Bool.and_eq_true] at hc
           have hx := iF (K := []) hs.lk (by simp) g1
           obtain ⟨b', r, e2, hq, hrow, -⟩ := hx
           rw [e0] at e2
           simp only [Value.pointer.injEq, Option.some.injEq, Addr.mk.injEq, and_true] at e2
           obtain ⟨rfl, rfl⟩ := e2
           obtain ⟨L0, hL⟩ := AX hrow hq
           obtain ⟨c, hB, hcc, hsz0⟩ := hrow
           rw [hL] at hc
           obtain ⟨s1, s2⟩ := oH hc.1
           simp only [Option.getD_some] at s1 s2
           have hsz : kd.sz U = L0.length := Kd.qK hL
           obtain ⟨cs, hcs, hr⟩ := hs.wt.range hL hB hcc (ks := (VK.agg (k :: L)).cells) (i := r * kd.sz U + q) (by rw [hsz] at hsz0 ⊢; rw [Nat.add_mul] at hsz0; omega) (fun j k' hj => Au hL (s2 j k' hj))
           have hro := hc.2
           simp only [pF, Bool.and_eq_true, beq_iff_eq] at hro
           have hl := hcs.len
           cases hd : P.underlying T with
           | none => rw [hd] at hro; cases hro.1
           | some d =>
             rw [hd] at hro
             simp only [Option.map_some, Option.some.injEq] at hro
             have hld := run_loadAt_mid w b _ T cs d hr hd hro.1 (by rw [← hl]; exact hro.2)
             have hhead : cs[0]? = some v0 := by
               match cs, hcs with
               | c1 :: cs', _ =>
                 have := hr 0 c1 rfl
                 rw [Nat.add_zero, c0] at this
                 rw [this]; rfl
             refine ⟨.agg cs.toArray, ?_, cs, rfl, hcs, n, hn, by rw [hhead]; rcases hh with rfl | rfl <;> simp⟩
             have e3 : a.tmps.getD x undef = .pointer (some ⟨b, r * kd.sz U + q, none⟩) := e0
             simp only [pE, e3, asAddr, Sem.run_bind, Sem.run_pure, Result.andThen_ok]
             simpa only [Instr.loadAt, Instr.sureAddr, Sem.run_bind, Sem.run_pure, Result.andThen_ok] using hld
         · cases h1
       · cases h1
   · exact Dl hs h
def sj (P : Program) (kd : Kd) (Γ : Gm) (H : Hm) : List ResultVar → List VK → Bool
 | [], [] => true
 | r :: rs, k :: l => (match zF P kd Γ H r with | some t => toSub kd t k | none => false) && sj P kd Γ H rs l
 | _, _ => false
def Pz (P : Program) (kd : Kd) (rs : List ResultVar) (s : aj) (Γ : Gm) (H : Hm) (n : Nat) : Bool :=
 Nat.ble n s.inc && s.post.all (fun e => match H.at e.1 with | some t => MV kd t e.2 | none => false) && (match rs with
 | [r] => (match zF P kd Γ H r with
   | some t => Ga kd t s.res
   | none => false)
 | rs => (match s.res with
   | .bX l => sj P kd Γ H rs l
   | _ => false))
def kJ (P : Program) (kd : Kd) (rs : List ResultVar) (s : aj) (alts : List (AT × Hm)) (Γ : Gm) (H : Hm) (n : Nat) : Bool := alts.any fun q => Pz P kd rs ⟨s.ps, q.1, s.aS, s.inc, s.pre, q.2⟩ Γ H n
theorem Gr {Γ : Gm} {H : Hm} (hBb : B ≤ cx.base) (hs : dB kd cx E B w0 nt N H Γ.at a w) : ∀ {rs : List ResultVar} {l : List VK}, sj P kd Γ H rs l = true → ∃ vs, (rs.mapM (pE a.tmps)).run P w = .ok vs w ∧ vL w B N l vs
 | [], [], _ => ⟨[], rfl, trivial⟩
 | [], _ :: _, h => by cases h
 | _ :: _, [], h => by cases h
 | r :: rs, k :: l, h => by
   simp only [sj, Bool.and_eq_true, decide_eq_true_eq] at h
   obtain ⟨vs, e2, hvs⟩ := Gr hBb hs h.2
   cases hr : zF P kd Γ H r with
   | none => rw [hr] at h; cases h.1
   | some t =>
     rw [hr] at h
     obtain ⟨v, e1, hv⟩ := JI hs hr
     exact ⟨v :: vs, by simp [List.mapM_cons, e1, e2], nX hBb h.1 hv, hvs⟩
theorem Jl {fn : Func} {s : aj} {Γ : Gm} {H : Hm} (hBb : B ≤ cx.base) (hs : dB kd cx E B w0 nt N H Γ.at a w) {n : Nat} (h : Pz P kd fn.results.toList s Γ H n = true) : n ≤ s.inc ∧ dL kd cx w B N s.post ∧ ∃ v, (results fn a.tmps).run P w = .ok v w ∧ bD kd cx w B N s.res v := by
 simp only [Pz, Bool.and_eq_true] at h
 refine ⟨Nat.le_of_ble_eq_true h.1.1, fun i T o t ht => ?_, ?_⟩
 · have h1 := List.all_eq_true.1 h.1.2 _ (Hm.at_mem ht)
   split at h1
   · rename_i t' ht'
     obtain ⟨k1, k2, k3, v, k4, k5⟩ := hs.hm i T o t' ht'
     exact ⟨k1, k2, k3, v, k4, AQ hBb h1 k5⟩
   · cases h1
 rw [vF, Array.mapM_eq_mapM_toList]
 have h2 := h.2
 split at h2
 · rename_i r hrs
   split at h2
   · rename_i t ht
     obtain ⟨v, e, hv⟩ := JI hs ht
     rw [hrs]
     exact ⟨v, by simp [List.mapM_cons, e], CS hBb h2 hv⟩
   · cases h2
 · rename_i hne
   split at h2
   · rename_i l hl
     obtain ⟨vs, e, hvs⟩ := Gr hBb hs h2
     refine ⟨.tuple vs.toArray, ?_, by rw [hl]; exact ⟨vs, rfl, hvs⟩⟩
     have hlen : vs.length ≠ 1 := fun hv1 => by
       have : fn.results.toList.length = vs.length := by
         have h5 : ∀ {rs : List ResultVar} {l : List VK}, sj P kd Γ H rs l = true → rs.length = l.length := by
           intro rs
           induction rs with
           | nil => intro l h; cases l with
             | nil => rfl
             | cons a b => cases h
           | cons r rs ih => intro l h; cases l with
             | nil => cases h
             | cons a b => simp only [sj, Bool.and_eq_true] at h; simp [ih h.2]
         have h6 : ∀ {l : List VK} {vs : List Value}, vL w B N l vs → l.length = vs.length := by
           intro l
           induction l with
           | nil => intro vs h; cases vs with
             | nil => rfl
             | cons a b => exact h.elim
           | cons k l ih => intro vs h; cases vs with
             | nil => exact h.elim
             | cons a b => simp [ih h.2]
         rw [h5 h2, h6 hvs]
       rw [hv1] at this
       match hr : fn.results.toList, this with
       | [r], _ => exact hne r hr
     simp [e, hlen]
   · cases h2
def mR (T : TypeId) (n : Nat) : List EI := (List.range n).map fun o => .par 1000 T o
def IZ : AT → Bool
 | .ptr _ _ (.par i) => Nat.blt i 1000
 | .ptr _ _ .env => true
 | t => jl t
def Gd : AT → Bool
 | .own _ _ => true
 | .oL _ _ => true
 | t => jl t
def wF (ps : List AT) (i : Nat) : Bool := match ps[i]? with
 | some (.ptr _ _ (.par j)) => Nat.beq i j
 | _ => false
def Lj : EI → Bool
 | .par i _ _ => Nat.blt i 1000
 | .ty _ _ => true
def aP (P : Program) (kd : Kd) (ev : Ev) (FT : FuncId → Option aj) (FA : FuncId → Option (aj × List (AT × Hm))) (lp : Bool) (ae : List (Nat × Nat)) (fn : Func) (s : aj) (alts : List (AT × Hm)) : Bool :=
 match fn.body with
 | some (.seq (.region _ ops false) rest) => match ops.toList with
   | ⟨some d, .alloc T, _, _, _, none⟩ :: more => match kd T, (P.info? T).bind (·.zero) with
     | some k, some z => eZ k.cells z.cells.toList && decide (0 < kd.sz T) && Nat.blt d fn.ntmps && Nat.ble s.ps.length d && Nat.ble d 1000 && s.ps.all IZ && s.pre.all (fun e => wF s.ps e.1.1 && jl e.2) && s.aS.all Lj &&
         (s.aS ++ mR T (kd.sz T)).all (ve kd ae) && alts.all (fun q => jl q.1 && q.2.all fun e => wF s.ps e.1.1 && Gd e.2) &&
         IV P kd ev FT FA (s.aS ++ mR T (kd.sz T)) fn.ntmps s.inc ops.toList more ((d, some (none, .ptr T 0 (.par 1000))) :: rR s.ps 0) [] s.pre 0 (fun Γ gs H n => iW P kd ev FT FA lp (s.aS ++ mR T (kd.sz T)) fn.ntmps s.inc rest (sU Γ gs) H n (kJ P kd fn.results.toList s alts) (fun _ _ _ _ => false) (kJ P kd fn.results.toList s alts))
     | _, _ => false
   | _ => false
 | _ => false
def gX (kd : Kd) (sh : Sh) (s : aj) (args : Array Value) (w w1 : World) : Cx := ⟨w1.heap.size, sh.pe, sh.el, sh.vals, fun i => if i = 1000 then (w.heap.size, 0) else l8 kd s.ps args i⟩
theorem TJ {sh : Sh} {s : aj} {args : Array Value} {w1 : World} {t : AT} {v : Value} (h : IZ t = true) (hle : w.heap.size ≤ w1.heap.size) (hv : bD kd (bQ kd sh s args w) w' B N t v) : bD kd (gX kd sh s args w w1) w' B N t v := by
 unfold IZ at h
 split at h
 · rename_i T o i
   obtain ⟨b, r, e, h1, h2, h3, h4⟩ := hv
   have hi : i < 1000 := by simp only [Nat.blt] at h; exact Nat.le_of_ble_eq_true h
   exact ⟨b, r, e, h1, h2, by simp only [gX, if_neg (show ¬ i = 1000 by omega)]; exact h3, Nat.lt_of_lt_of_le h4 hle⟩
 · obtain ⟨b, r, e, h1, h2, h3⟩ := hv
   exact ⟨b, r, e, h1, h2, h3⟩
 · exact gZ (rH := bQ kd sh s args w) rfl h hv
theorem J4 {sh : Sh} {s : aj} {args : Array Value} {w1 : World} {t : AT} {v : Value} (h : Gd t = true) (hle : w.heap.size ≤ w1.heap.size) (hv : bD kd (gX kd sh s args w w1) w' B N t v) : bD kd (bQ kd sh s args w) w' B N t v := by
 unfold Gd at h
 split at h
 · exact aU.lower (show aU w' w1.heap.size N _ v from hv) hle
 · exact ⟨aU.lower (show aU w' w1.heap.size N _ v from hv.1) hle, hv.2⟩
 · exact gZ (rH := gX kd sh s args w w1) rfl h hv
theorem sW {sh : Sh} {s : aj} {args : Array Value} {i : Nat} (h : wF s.ps i = true) (hps : ∀ (i : Nat) (t : AT), s.ps[i]? = some t → ∃ v, args[i]? = some v ∧ bD kd (bQ kd sh s args w) w B N t v) (hF : s.ps.all IZ = true) : i < 1000 ∧ (l8 kd s.ps args i).1 < w.heap.size := by
 unfold wF at h
 split at h
 · rename_i T o j hj
   have := Nat.eq_of_beq_eq_true h
   subst this
   obtain ⟨v, -, b, r, -, -, -, h3, h4⟩ := hps i _ hj
   have h5 := List.all_eq_true.1 hF _ (List.mem_of_getElem? hj)
   refine ⟨by simp only [IZ, Nat.blt] at h5; exact Nat.le_of_ble_eq_true h5, ?_⟩
   have h3' : l8 kd s.ps args i = (b, r) := h3
   rw [h3']
   exact h4
 · cases h
theorem Km {alts : List (AT × Hm)} {ev : Ev} {sh : Sh} {lp : Bool} {ae : List (Nat × Nat)} {f : FuncId} {fn : Func} {s : aj} (hf : P.funcs[f]? = some fn) (h : aP P kd ev FT FA lp ae fn s alts = true) (vU : ∀ y, (lp = true ∨ y = none) → ∀ f s, FT f = some s → au P f ∧ TC P kd (pR sh y) B G f s) (vS : ∀ y, (lp = true ∨ y = none) → ∀ f q, FA f = some q → au P f ∧ aV P kd (pR sh y) B G f q.1 q.2) (hev : rf ev sh G) (hW : lp = true → ∃ W, sh.el 0 = .int .i64 W ∧ bB .i64 W) (hS : Safe kd ae G) (hm : P.follows .mixedOrders = true) : aV P kd sh B G f s alts := by
 intro N w args hargs hB hlim hwt hG hps hpre
 unfold aP at h
 split at h
 · rename_i id ops rest hbody
   split at h
   · rename_i d T ty pos after more hops
     split at h
     · rename_i k z hk hz
       simp only [Bool.and_eq_true, decide_eq_true_eq] at h
       obtain ⟨⟨⟨⟨⟨⟨⟨⟨⟨⟨c1, c2⟩, c3⟩, c4⟩, c5⟩, c6⟩, c7⟩, c8⟩, c9⟩, c10⟩, c11⟩ := h
       have c3 : @LT.lt Nat _ d fn.ntmps := by simp only [Nat.blt] at c3; exact Nat.le_of_ble_eq_true c3
       have c4 := Nat.le_of_ble_eq_true c4
       have c5 := Nat.le_of_ble_eq_true c5
       have hall := fJ (B := B) (N := N) c1 w
       have hL := hall.len
       have hsz : kd.sz T = k.cells.length := Kd.qK (Kd.uV hk)
       obtain ⟨w1, hw1⟩ : ∃ w1, w1 = w.alloc (.cells z.cells.toList.toArray T) := ⟨_, rfl⟩
       have hsz1 : w1.heap.size = w.heap.size + 1 := by rw [hw1]; simp
       have hE1 : Eff (fun _ _ _ => False) w w1 := by rw [hw1]; exact Eff.bL _ _ _
       have hblk : w1.heap[w.heap.size]? = some (.cells z.cells.toList.toArray T (0, 0)) := by rw [hw1]; exact blk_alloc_new _ _
       have aeR : WT kd.sig B N w1 := by rw [hw1]; exact hwt.alloc (Kd.uV hk) (aT.one hall)
       have hG1 : G w1 := hS w w1 hG (hE1.mono fun _ _ _ _ h => h.elim)
       have hle : w.heap.size ≤ w1.heap.size := by omega
       -- what is known at the end, told of the first world
       have fin : ∀ (Γ : Gm) (H : Hm) (n : Nat) (a : Act) (w' : World), kJ P kd fn.results.toList s alts Γ H n = true → dB kd (gX kd sh s args w w1) (s.aS ++ mR T (kd.sz T)) B w1 fn.ntmps (N + n) H Γ.at a w' → a.defers = [] ∧ ∃ v, (results fn a.tmps).run P w' = .ok v w' ∧
           ∃ v', Ending.returned v = .returned v' ∧ WT kd.sig B (N + s.inc) w' ∧ Eff (dC B kd (bQ kd sh s args w) s.aS) w w' ∧ ∃ q ∈ alts, bD kd (bQ kd sh s args w) w' B (N + s.inc) q.1 v' ∧ dL kd (bQ kd sh s args w) w' B (N + s.inc) q.2 := fun Γ H n a w' hk' hs => by
         obtain ⟨q, hq, hk'⟩ := List.any_eq_true.1 hk'
         obtain ⟨r1, rp, v, r2, r3⟩ := Jl (show B ≤ w1.heap.size by omega) hs hk'
         have r1 : n ≤ s.inc := r1
         have hq' := List.all_eq_true.1 c10 q hq
         simp only [Bool.and_eq_true] at hq'
         refine ⟨hs.defers, v, r2, v, rfl, hs.wt.mono (by omega), ?_, q, hq, (gZ (rH := gX kd sh s args w w1) (cx := bQ kd sh s args w) rfl hq'.1 r3).mono (Eff.refl (fun _ _ _ => False) _) (by omega), fun i T' o t ht => ?_⟩
         · refine (hE1.mono fun _ _ _ _ h => h.elim).trans (hs.aS.mono fun b U j hb hc => ?_)
           rcases hc with hc | ⟨i, o, hm', rfl, rfl, jm⟩ | ⟨o, hm', rfl, jm⟩
           · exact .inl (Nat.le_trans hle hc)
           · rcases List.mem_append.1 hm' with hm' | hm'
             · have := List.all_eq_true.1 c8 _ hm'
               simp only [Lj, Nat.blt] at this
               have := Nat.le_of_ble_eq_true this
               refine .inr (.inl ⟨i, o, hm', ?_, ?_, jm⟩) <;> simp [gX, bQ, show ¬ i = 1000 by omega]
             · obtain ⟨o', -, e⟩ := List.mem_map.1 hm'
               cases e
               exact .inl (Nat.le_refl _)
           · rcases List.mem_append.1 hm' with hm' | hm'
             · exact .inr (.inr ⟨_, hm', rfl, jm⟩)
             · obtain ⟨o', -, e⟩ := List.mem_map.1 hm'
               cases e
         · have hp := List.all_eq_true.1 hq'.2 _ (Hm.at_mem ht)
           simp only [Bool.and_eq_true] at hp
           obtain ⟨i1, i2⟩ := sW hp.1 hps c6
           obtain ⟨k1, k2, k3, v, k4, k5⟩ := rp i T' o t ht
           have epi : (gX kd sh s args w w1).ps i = (bQ kd sh s args w).ps i := by simp [gX, bQ, show ¬ i = 1000 by omega]
           rw [epi] at k3 k4
           exact ⟨i2, k2, k3, v, k4, (J4 hp.2 hle k5).mono (Eff.refl (fun _ _ _ => False) _) (by omega)⟩
       obtain ⟨ops⟩ := ops
       simp only at hops
       subst hops
       refine calls_of_wp hf hbody (wp_seq (wp_region_lit (wpList_step fun K hK => ?_)))
       rw [if_pos (by simp [Region.wanted])]
       have hex : nL P { tmps := args ++ Array.replicate (fn.ntmps - args.size) undef, defers := [] } ⟨some d, .alloc T, ty, pos, after, none⟩ w (fun v w' => v = .pointer (some ⟨w.heap.size, 0, none⟩) ∧ w' = w1) := by
         cases hi : P.info? T with
         | none => rw [hi] at hz; cases hz
         | some i =>
           rw [hi] at hz
           simp only [Option.bind_some] at hz
           refine .inl ⟨_, _, ?_, rfl, rfl⟩
           rw [hw1]
           simp [execOp, Instr.alloc, zeroValue, typeInfo, hi, hz, newVar, newRow]
       refine hex.wp ?_
       rintro v2 w2 ⟨hv2, hw2⟩
       rw [hv2, hw2]
       refine hK _ _ ?_
       clear hex hK K hv2 hw2
       have st : dB kd (gX kd sh s args w w1) (s.aS ++ mR T (kd.sz T)) B w1 fn.ntmps (N + 0) s.pre (Gm.at ((d, some (none, .ptr T 0 (.par 1000))) :: rR s.ps 0)) (Act.put { tmps := args ++ Array.replicate (fn.ntmps - args.size) undef, defers := [] } (some d) (.pointer (some ⟨w.heap.size, 0, none⟩))) w1 := by
         have hda : @LT.lt Nat _ d (Act.mk (args ++ Array.replicate (fn.ntmps - args.size) undef) []).tmps.size := by
           rw [show (Act.mk (args ++ Array.replicate (fn.ntmps - args.size) undef) []).tmps.size = fn.ntmps by simp; omega]
           exact c3
         refine ⟨by rw [size_put]; simp; omega, rfl, aeR, Eff.refl _ _, fun t e he => ?_, fun i T' o t ht => ?_⟩
         · rw [Gm.at_set] at he
           split at he
           · rename_i htd
             subst htd
             cases he
             simp only [fq]
             rw [lL hda, if_pos rfl]
             refine ⟨w.heap.size, 0, by simp, c2, ⟨_, by omega, hblk, by rw [hsz]; simp only [List.size_toArray]; omega⟩, by simp [gX], by show w.heap.size < w1.heap.size; omega⟩
           · rename_i htd
             obtain ⟨j, u, g1, rfl, rfl⟩ := nP _ _ _ _ he
             obtain ⟨v, g2, g3⟩ := hps j u g1
             have : slot { tmps := args ++ Array.replicate (fn.ntmps - args.size) undef, defers := [] } (0 + j) = v := by
               unfold slot
               rw [Nat.zero_add, Array.getD_eq_getD_getElem?, Array.getElem?_append, if_pos (Array.getElem?_eq_some_iff.1 g2).1, g2]
               rfl
             simp only [fq]
             rw [lL hda, if_neg htd, this]
             exact TJ (List.all_eq_true.1 c6 _ (List.mem_of_getElem? g1)) hle (g3.mono hE1 (Nat.le_refl _))
         · have hp := List.all_eq_true.1 c7 _ (Hm.at_mem ht)
           simp only [Bool.and_eq_true] at hp
           obtain ⟨i1, i2⟩ := sW hp.1 hps c6
           obtain ⟨k1, k2, k3, v, k4, k5⟩ := hpre i T' o t ht
           have epi : (gX kd sh s args w w1).ps i = (bQ kd sh s args w).ps i := by simp [gX, bQ, show ¬ i = 1000 by omega]
           refine ⟨by rw [epi]; exact Nat.lt_of_lt_of_le k1 hle, k2, by rw [epi]; exact k3.mono hE1, v, by rw [epi]; exact hE1.cell k4 fun _ h => h, gZ (rH := bQ kd sh s args w) rfl hp.2 (k5.mono hE1 (Nat.le_refl _))⟩
       have HG : ∀ w', Eff (dC B kd (gX kd sh s args w w1) (s.aS ++ mR T (kd.sz T))) w1 w' → G w' := fun w' he => hS w1 w' hG1 (sH c9 rfl he)
       refine pO (cx := gX kd sh s args w w1) (vU none (.inr rfl)) (vS none (.inr rfl)) hev rfl (by omega) HG hlim (fun Γ gs H n a w2 hk hs2 hg2 => ?_) more _ [] _ 0 _ w1 c11 st (fun t e he q hq => ?_)
       · obtain ⟨p1, p2⟩ := vE hs2 hg2
         exact oZ vU vS hev hW (by omega) hm N hlim rest (gX kd sh s args w w1) ⟨none, .inr rfl, rfl⟩ rfl HG _ _ _ _ _ _ _ _ _ hk p1 p2 (fun Γ H n a w' hk hs _ => fin Γ H n a w' hk hs) (fun i Γ H n a w' hk => by cases hk) (fun Γ H n a w' hk hs _ => fin Γ H n a w' hk hs)
       · rw [Gm.at_set] at he
         split at he
         · cases he; cases hq
         · obtain ⟨j, u, g1, rfl, rfl⟩ := nP _ _ _ _ he
           cases hq
     · cases h
   · cases h
 · cases h
theorem aB {alts : List (AT × Hm)} {ev : Ev} {sh : Sh} {ae : List (Nat × Nat)} {f : FuncId} {fn : Func} {s : aj} (hf : P.funcs[f]? = some fn) (h : aP P kd ev FT FA false ae fn s alts = true) (gH : ∀ f s, FT f = some s → au P f ∧ TC P kd sh B G f s) (qU : ∀ f q, FA f = some q → au P f ∧ aV P kd sh B G f q.1 q.2) (hev : rf ev sh G) (hS : Safe kd ae G) (hm : P.follows .mixedOrders = true) : aV P kd sh B G f s alts :=
 Km hf h (fun y hy => by rcases hy with hy | rfl; · cases hy
                         exact gH) (fun y hy => by rcases hy with hy | rfl; · cases hy
                                                   exact qU) hev (fun hy => by cases hy) hS hm
theorem aaw {f : FuncId} {s : aj} {sh : Sh} (h : aV P kd sh B G f s [(s.res, s.post)]) : TC P kd sh B G f s := by
 intro N w args h1 h2 h3 h4 h5 h6 h7
 refine (h N w args h1 h2 h3 h4 h5 h6 h7).mono ?_
 rintro e w' ⟨v, rfl, g1, g2, q, hq, g3, g4⟩
 simp only [List.mem_singleton] at hq
 subst hq
 exact ⟨v, rfl, g1, g2, g3, g4⟩
end Go.Proofs.YtncnepmgmphanaaGreatDoor
