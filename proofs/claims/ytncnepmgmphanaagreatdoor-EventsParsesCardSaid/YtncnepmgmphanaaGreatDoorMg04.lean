/- A checker of the types of a function's code, seventh part: the whole code of a function, and its contract by types. Plain; no condition. -/
import Derived.Test.YtncnepmgmphanaaGreatDoorTcF
import Derived.Scope
import Derived.Test.YtncnepmgmphanaaGreatDoorProg
set_option linter.unusedVariables false
set_option linter.unusedSimpArgs false
set_option linter.unusedSectionVars false
namespace Go.Proofs.YtncnepmgmphanaaGreatDoor
section
open Go.RowKit
def sU (Γ : Gm) : List Nat → Gm
 | [] => Γ
 | _ :: _ => Γ.map fun p => (p.1, strip p.2)
def ai9 (P : Program) (kd : Kd) (ev : Ev) (H : Hm) (FT : FuncId → Option aj) (E : List EI) (ops : List Oper) (Γ : Gm) (bG : jv) (i : Nat) : Option kW × Nat × List EI :=
 match ops[i]? with
 | none => (none, 0, [])
 | some o => match ji ops o with
   | none => (none, 0, [])
   | some g => match q9 P kd ev FT E H (fO (uJ (jw (look ops Γ bG i) g o) (look ops Γ bG i)) (gI (uJ (jw (look ops Γ bG i) g o) (look ops Γ bG i)) g)) o.op with
     | none => (none, 0, [])
     | some (r, inc, D) => (o.dst.bind fun _ => r.map fun t => (g, t), inc, D)
def Es (P : Program) (kd : Kd) (ev : Ev) (H : Hm) (FT : FuncId → Option aj) (E : List EI) (ops : List Oper) (Γ : Gm) : Nat → jv → jv
 | 0, bG => bG
 | n + 1, bG => Es P kd ev H FT E ops Γ n (bG ++ [ai9 P kd ev H FT E ops Γ bG bG.length])
def vH (P : Program) (kd : Kd) (ev : Ev) (H : Hm) (FT : FuncId → Option aj) (E : List EI) (nt lim n : Nat) (ops : List Oper) (Γ : Gm) (bG : jv) : Option (Gm × Hm × Nat) :=
 if I5 P kd ev H FT E nt ops Γ bG && Nat.ble (n + sQ bG ops.length) lim then some (OV ops Γ bG, aeq kd ops Γ bG H, sQ bG ops.length) else none
def agJ (ops : List Oper) (bG : jv) : jv := match ops[ops.length - 1]? with
 | some o => if isLast ops (ops.length - 1) o then bG.take (ops.length - 1) else bG
 | none => bG
def ajf : AT → Bool
 | .qc _ _ _ => true
 | _ => false
def FK (P : Program) (kd : Kd) (ev : Ev) (FT : FuncId → Option aj) (E : List EI) (ops : List Oper) (Γ : Gm) : Hm → Hm
 | [] => []
 | H => H.cut ((if H.any (fun p => ajf p.2) then agJ ops (Es P kd ev [] FT E ops Γ ops.length []) else Es P kd ev [] FT E ops Γ ops.length []).flatMap fun e => e.2.2)
def vo (P : Program) (kd : Kd) (ev : Ev) (FT : FuncId → Option aj) (E : List EI) (nt lim n : Nat) (ops : List Oper) (Γ : Gm) (H : Hm) : Option (Gm × Hm × Nat) :=
 vH P kd ev H FT E nt lim n ops Γ (Es P kd ev H FT E ops Γ ops.length [])
def nC (P : Program) (kd : Kd) (ev : Ev) (FT : FuncId → Option aj) (E : List EI) (nt lim : Nat) : Code → Gm → Hm → Nat → (Gm → Hm → Nat → Bool) → (Nat → Gm → Hm → Nat → Bool) → (Gm → Hm → Nat → Bool) → Bool
 | .skip, Γ, H, n, kn, _, _ => kn Γ H n
 | .region _ ops true, Γ, H, n, kn, _, _ => match vo P kd ev FT E nt lim n ops.toList Γ (FK P kd ev FT E ops.toList Γ H) with
   | some (Γ', H', m) => kn Γ' H' (n + m)
   | none => false
 | .region _ ops false, Γ, H, n, kn, _, _ => match Fp P kd ev FT E nt lim ops.toList ops.toList Γ [] H n with
   | some (Γ', gs', H', n') => kn (sU Γ' gs') H' n'
   | none => false
 | .seq a b, Γ, H, n, kn, kx, kr => nC P kd ev FT E nt lim a Γ H n (fun Γ H n => nC P kd ev FT E nt lim b Γ H n kn kx kr) kx kr
 | .cond c x y, Γ, H, n, kn, kx, kr => match mE Γ.at [] c with
   | some (.kb true) => nC P kd ev FT E nt lim x Γ H n kn kx kr
   | some (.kb false) => nC P kd ev FT E nt lim y Γ H n kn kx kr
   | some (.v (.c .bool)) => nC P kd ev FT E nt lim x Γ H n kn kx kr && nC P kd ev FT E nt lim y Γ H n kn kx kr
   | _ => false
 | .block id b, Γ, H, n, kn, kx, kr => nC P kd ev FT E nt lim b Γ H n kn (fun i Γ H n => if i = id then kn Γ H n else kx i Γ H n) kr
 | .exit id, Γ, H, n, _, kx, _ => kx id Γ H n
 | .scope b, Γ, H, n, kn, kx, kr => nC P kd ev FT E nt lim b Γ H n kn kx kr
 | .ret, Γ, H, n, _, _, kr => kr Γ H n
 | _, _, _, _, _, _, _ => false
variable {P : Program} {kd : Kd} {cx : Cx} {w w' w0 : World} {B N N' : Nat} {E : List EI} {FT : FuncId → Option aj} {G : World → Prop} {a : Act} {nt : Nat}
theorem Dp {t : Nat} : ∀ (Γ : Gm), Gm.at (Γ.map fun p => (p.1, strip p.2)) t = strip (Γ.at t)
 | [] => rfl
 | (d, e) :: Γ => by
   simp only [List.map_cons, Gm.at_set]
   split
   · rfl
   · exact Dp Γ
theorem Fq {e : Option kW} {x : kW} (h : strip e = some x) : e = some x ∧ x.1 = none := by
 cases e with
 | none => cases h
 | some e =>
   obtain ⟨g, u⟩ := e
   cases g with
   | none => cases h; exact ⟨rfl, rfl⟩
   | some q => cases h
def Plain (Γ : Gm) : Prop := ∀ t e, Γ.at t = some e → e.1 = none
theorem vE {Γ : Gm} {gs : List Nat} {H : Hm} (h : dB kd cx E B w0 nt N H Γ.at a w) (hg : oM Γ gs) : dB kd cx E B w0 nt N H (sU Γ gs).at a w ∧ Plain (sU Γ gs) := by
 cases gs with
 | nil =>
   refine ⟨h, fun t e he => ?_⟩
   cases hx : e.1 with
   | none => rfl
   | some q => have := hg t e he q hx; cases this
 | cons g gs =>
   refine ⟨⟨h.size, h.defers, h.wt, h.aS, fun t e he => ?_, h.hm⟩, fun t e he => ?_⟩
   · simp only [sU] at he
     rw [Dp] at he
     exact h.lk t e (Fq he).1
   · simp only [sU] at he
     rw [Dp] at he
     exact (Fq he).2
theorem Ae {ev : Ev} {H : Hm} {ops : List Oper} {Γ : Gm} (h : dB kd cx E B w0 nt N H Γ.at a w) : dB kd cx E B w0 nt N (FK P kd ev FT E ops Γ H) Γ.at a w := by
 refine ⟨h.size, h.defers, h.wt, h.aS, h.lk, fun i T o t ht => ?_⟩
 cases H with
 | nil => cases ht
 | cons e H => exact h.hm i T o t (Hm.sS ht).1
theorem aaG {ev : Ev} (gH : ∀ f s, FT f = some s → au P f ∧ TC P kd cx.sh B G f s) (hev : rA ev cx G) (hb : cx.base = w0.heap.size) (hB : B ≤ w0.heap.size) (HG : ∀ w, Eff (dC B kd cx E) w0 w → G w) (hm : P.follows .mixedOrders = true) (N0 : Nat) {lim : Nat} (hlim : N0 + lim ≤ 68719476736) :
   ∀ (c : Code) (Γ : Gm) (H : Hm) (n : Nat) (kn : Gm → Hm → Nat → Bool) (kx : Nat → Gm → Hm → Nat → Bool) (kr : Gm → Hm → Nat → Bool) (Q : Exit → Act → World → Prop) (a : Act) (w : World), nC P kd ev FT E nt lim c Γ H n kn kx kr = true → dB kd cx E B w0 nt (N0 + n) H Γ.at a w → Plain Γ →
     (∀ Γ H n a w, kn Γ H n = true → dB kd cx E B w0 nt (N0 + n) H Γ.at a w → Plain Γ → Q .normal a w) →
     (∀ i Γ H n a w, kx i Γ H n = true → dB kd cx E B w0 nt (N0 + n) H Γ.at a w → Plain Γ → Q (.exit i) a w) →
     (∀ Γ H n a w, kr Γ H n = true → dB kd cx E B w0 nt (N0 + n) H Γ.at a w → Plain Γ → Q .ret a w) → c.wp P Q a w := by
 intro c
 induction c with
 | skip => intro Γ H n kn kx kr Q a w h hs hp h1 h2 h3; exact wp_skip (h1 Γ H n a w h hs hp)
 | region id ops draw =>
   intro Γ H n kn kx kr Q a w h hs hp h1 h2 h3
   obtain ⟨ops⟩ := ops
   cases draw with
   | true =>
     simp only [nC, vo, vH] at h
     split at h
     · rename_i Γ' H' m hr
       split at hr
       · rename_i hd
         cases hr
         simp only [Bool.and_eq_true] at hd
         have hle := Nat.le_of_ble_eq_true hd.2
         exact uE gH hev hb hB HG hm (by omega) hd.1 (Ae hs) hp fun a w hs' hp' => h1 _ _ _ a w h (by rw [← Nat.add_assoc]; exact hs') hp'
       · cases hr
     · cases h
   | false =>
     simp only [nC] at h
     split at h
     · rename_i Γ' gs' H' n' hr
       refine wp_region_lit (yC gH hev hb hB HG hlim ops Γ Γ' [] gs' H H' n n' a w hr hs (fun t e he q hq => by rw [hp t e he] at hq; cases hq) fun a w hs' hg' => ?_)
       obtain ⟨e1, e2⟩ := vE hs' hg'
       exact h1 _ _ n' a w h e1 e2
     · cases h
 | seq x y tJ uh =>
   intro Γ H n kn kx kr Q a w h hs hp h1 h2 h3
   simp only [nC] at h
   exact wp_seq (tJ Γ H n _ kx kr _ a w h hs hp (fun Γ H n a w hk hs hp => uh Γ H n kn kx kr Q a w hk hs hp h1 h2 h3) h2 h3)
 | cond c x y tJ uh =>
   intro Γ H n kn kx kr Q a w h hs hp h1 h2 h3
   simp only [nC] at h
   split at h
   · rename_i g1
     have hbv : a.eval c = .bool true := iF (K := []) hs.lk (by simp) g1
     exact wp_cond_true hbv (tJ Γ H n kn kx kr Q a w h hs hp h1 h2 h3)
   · rename_i g1
     have hbv : a.eval c = .bool false := iF (K := []) hs.lk (by simp) g1
     exact wp_cond_false hbv (uh Γ H n kn kx kr Q a w h hs hp h1 h2 h3)
   · rename_i g1
     simp only [Bool.and_eq_true] at h
     obtain ⟨b, hbv⟩ := iF (K := []) hs.lk (by simp) g1
     cases b with
     | true => exact wp_cond_true hbv (tJ Γ H n kn kx kr Q a w h.1 hs hp h1 h2 h3)
     | false => exact wp_cond_false hbv (uh Γ H n kn kx kr Q a w h.2 hs hp h1 h2 h3)
   · cases h
 | block id b ih =>
   intro Γ H n kn kx kr Q a w h hs hp h1 h2 h3
   simp only [nC] at h
   refine wp_block (ih Γ H n kn _ kr _ a w h hs hp h1 (fun i Γ H n a w hk hs hp => ?_) h3)
   simp only [Exit.inBlock]
   split at hk
   · rename_i e
     rw [if_pos e]
     exact h1 Γ H n a w hk hs hp
   · rename_i e
     rw [if_neg e]
     exact h2 i Γ H n a w hk hs hp
 | loop b ih => intro Γ H n kn kx kr Q a w h; simp [nC] at h
 | rangeFunc f p s b ih1 ih2 => intro Γ H n kn kx kr Q a w h; simp [nC] at h
 | exit id => intro Γ H n kn kx kr Q a w h hs hp h1 h2 h3; exact wp_exit (h2 id Γ H n a w h hs hp)
 | scope b ih =>
   intro Γ H n kn kx kr Q a w h hs hp h1 h2 h3
   simp only [nC] at h
   exact wp_scope_straight (ih Γ H n kn kx kr _ a w h hs hp h1 h2 h3)
 | label l => intro Γ H n kn kx kr Q a w h; simp [nC] at h
 | goto l => intro Γ H n kn kx kr Q a w h; simp [nC] at h
 | ret => intro Γ H n kn kx kr Q a w h hs hp h1 h2 h3; exact wp_ret (h3 Γ H n a w h hs hp)
 | refuse s => intro Γ H n kn kx kr Q a w h; simp [nC] at h
def vG (P : Program) (kd : Kd) (Γ : Gm) : ResultVar → Option AT
 | .tmp t => mE Γ.at [] (.tmp t)
 | .cell x T => match mE Γ.at [] (.tmp x), kd T with
   | some (.ptr U q g), some k => if pq ((kd.sig U).getD []) q k.cells && pF P T k then zQ kd k else none
   | _, _ => none
def Ga (kd : Kd) (t u : AT) : Bool := decide (t = u) || (match u with
 | .v k => toSub kd t k
 | .ptr T o .any => (match t with | .ptr T' o' _ => decide (T = T') && decide (o = o') | _ => false)
 | _ => false)
def vw (P : Program) (kd : Kd) (Γ : Gm) : List ResultVar → List VK → Bool
 | [], [] => true
 | r :: rs, k :: l => (match vG P kd Γ r with | some t => toSub kd t k | none => false) && vw P kd Γ rs l
 | _, _ => false
def Gp (P : Program) (kd : Kd) (rs : List ResultVar) (s : aj) (Γ : Gm) (H : Hm) (n : Nat) : Bool :=
 Nat.ble n s.inc && s.post.all (fun e => match H.at e.1 with | some t => MV kd t e.2 | none => false) && (match rs with
 | [r] => (match vG P kd Γ r with
   | some t => Ga kd t s.res
   | none => false)
 | rs => (match s.res with
   | .bX l => vw P kd Γ rs l
   | _ => false))
def rR : List AT → Nat → Gm
 | [], _ => []
 | t :: ps, i => (i, some (none, t)) :: rR ps (i + 1)
def ve (kd : Kd) (ae : List (Nat × Nat)) : EI → Bool
 | .par _ T o => decide (o < kd.sz T) && !ae.contains (T, o)
 | .ty T o => decide (o < kd.sz T) && !ae.contains (T, o)
def aW (P : Program) (kd : Kd) (ev : Ev) (FT : FuncId → Option aj) (ae : List (Nat × Nat)) (fn : Func) (s : aj) : Bool :=
 match fn.body with
 | none => false
 | some c => Nat.ble s.ps.length fn.ntmps && s.aS.all (ve kd ae) && nC P kd ev FT s.aS fn.ntmps s.inc c (rR s.ps 0) s.pre 0 (Gp P kd fn.results.toList s) (fun _ _ _ _ => false) (Gp P kd fn.results.toList s)
theorem CS {t u : AT} {v : Value} (hBb : B ≤ cx.base) (h : Ga kd t u = true) (hv : bD kd cx w B N t v) : bD kd cx w B N u v := by
 simp only [Ga, Bool.or_eq_true, decide_eq_true_eq] at h
 rcases h with rfl | h
 · exact hv
 · split at h
   · exact nX hBb h hv
   · split at h
     · simp only [Bool.and_eq_true, decide_eq_true_eq] at h
       obtain ⟨rfl, rfl⟩ := h
       obtain ⟨b, r, e, h1, h2, -⟩ := hv
       exact ⟨b, r, e, h1, h2, trivial⟩
     · cases h
   · cases h
def pE (tmps : Array Value) : ResultVar → Sem Value
 | .tmp t => pure (tmps.getD t undef)
 | .cell a t => do loadVar t (← asAddr (tmps.getD a undef))
theorem Dl {Γ : Gm} {H : Hm} (hs : dB kd cx E B w0 nt N H Γ.at a w) {r : ResultVar} {t : AT} (h : vG P kd Γ r = some t) : ∃ v, (pE a.tmps r).run P w = .ok v w ∧ bD kd cx w B N t v := by
 cases r with
 | tmp s => exact ⟨_, rfl, iF (K := []) (x := .tmp s) hs.lk (by simp) h⟩
 | cell x T =>
   simp only [vG] at h
   split at h
   · rename_i U q g k h1 h2
     split at h
     · rename_i hc
       simp only [Bool.and_eq_true] at hc
       have hx := iF (K := []) hs.lk (by simp) h1
       obtain ⟨v, e, hv⟩ := uA (P := P) (T := T) hs.wt hx hc.1 hc.2 h
       obtain ⟨b, r, e2, -⟩ := id hx
       refine ⟨v, ?_, hv⟩
       have e3 : a.tmps.getD x undef = .pointer (some ⟨b, r * kd.sz U + q, none⟩) := e2
       rw [e2] at e
       simp only [pE, e3, asAddr, Sem.run_bind, Sem.run_pure, Result.andThen_ok]
       simpa only [Instr.loadAt, Instr.sureAddr, Sem.run_bind, Sem.run_pure, Result.andThen_ok] using e
     · cases h
   · cases h
theorem J7 {Γ : Gm} {H : Hm} (hBb : B ≤ cx.base) (hs : dB kd cx E B w0 nt N H Γ.at a w) : ∀ {rs : List ResultVar} {l : List VK}, vw P kd Γ rs l = true → ∃ vs, (rs.mapM (pE a.tmps)).run P w = .ok vs w ∧ vL w B N l vs
 | [], [], _ => ⟨[], rfl, trivial⟩
 | [], _ :: _, h => by cases h
 | _ :: _, [], h => by cases h
 | r :: rs, k :: l, h => by
   simp only [vw, Bool.and_eq_true, decide_eq_true_eq] at h
   obtain ⟨vs, e2, hvs⟩ := J7 hBb hs h.2
   cases hr : vG P kd Γ r with
   | none => rw [hr] at h; cases h.1
   | some t =>
     rw [hr] at h
     obtain ⟨v, e1, hv⟩ := Dl hs hr
     exact ⟨v :: vs, by simp [List.mapM_cons, e1, e2], nX hBb h.1 hv, hvs⟩
theorem vF (fn : Func) (tmps : Array Value) : results fn tmps = (do let vs ← fn.results.mapM (pE tmps); pure (if h : vs.size = 1 then vs[0] else .tuple vs)) := by
 unfold results
 congr 1
theorem aiE {fn : Func} {s : aj} {Γ : Gm} {H : Hm} (hBb : B ≤ cx.base) (hs : dB kd cx E B w0 nt N H Γ.at a w) {n : Nat} (h : Gp P kd fn.results.toList s Γ H n = true) : n ≤ s.inc ∧ dL kd cx w B N s.post ∧ ∃ v, (results fn a.tmps).run P w = .ok v w ∧ bD kd cx w B N s.res v := by
 simp only [Gp, Bool.and_eq_true] at h
 refine ⟨Nat.le_of_ble_eq_true h.1.1, fun i T o t ht => ?_, ?_⟩
 · have h1 := List.all_eq_true.1 h.1.2 _ (Hm.at_mem ht)
   split at h1
   · rename_i t' ht'
     obtain ⟨k1, k2, k3, v, k4, k5⟩ := hs.hm i T o t' ht'
     exact ⟨k1, k2, k3, v, k4, AQ hBb h1 k5⟩
   · cases h1
 rw [vF, Array.mapM_eq_mapM_toList]
 have h2 := h.2
 split at h2
 · rename_i r hrs
   split at h2
   · rename_i t ht
     obtain ⟨v, e, hv⟩ := Dl hs ht
     rw [hrs]
     exact ⟨v, by simp [List.mapM_cons, e], CS hBb h2 hv⟩
   · cases h2
 · rename_i hne
   split at h2
   · rename_i l hl
     obtain ⟨vs, e, hvs⟩ := J7 hBb hs h2
     refine ⟨.tuple vs.toArray, ?_, by rw [hl]; exact ⟨vs, rfl, hvs⟩⟩
     have hlen : vs.length ≠ 1 := fun hv1 => by
       have : fn.results.toList.length = vs.length := by
         have h5 : ∀ {rs : List ResultVar} {l : List VK}, vw P kd Γ rs l = true → rs.length = l.length := by
           intro rs
           induction rs with
           | nil => intro l h; cases l with
             | nil => rfl
             | cons a b => cases h
           | cons r rs ih => intro l h; cases l with
             | nil => cases h
             | cons a b => simp only [vw, Bool.and_eq_true] at h; simp [ih h.2]
         have h6 : ∀ {l : List VK} {vs : List Value}, vL w B N l vs → l.length = vs.length := by
           intro l
           induction l with
           | nil => intro vs h; cases vs with
             | nil => rfl
             | cons a b => exact h.elim
           | cons k l ih => intro vs h; cases vs with
             | nil => exact h.elim
             | cons a b => simp [ih h.2]
         rw [h5 h2, h6 hvs]
       rw [hv1] at this
       match hr : fn.results.toList, this with
       | [r], _ => exact hne r hr
     simp [e, hlen]
   · cases h2
theorem nP : ∀ (ps : List AT) (i t : Nat) (e : kW), (rR ps i).at t = some e → ∃ j u, ps[j]? = some u ∧ t = i + j ∧ e = (none, u)
 | [], i, t, e, h => by cases h
 | p :: ps, i, t, e, h => by
   simp only [rR, Gm.at_set] at h
   split at h
   · rename_i ht
     cases h
     exact ⟨0, p, rfl, by omega, rfl⟩
   · obtain ⟨j, u, h1, h2, h3⟩ := nP ps (i + 1) t e h
     exact ⟨j + 1, u, by simpa using h1, by omega, h3⟩
def Safe (kd : Kd) (ae : List (Nat × Nat)) (G : World → Prop) : Prop := ∀ w w', G w → Eff (fun k T j => (T, j % kd.sz T) ∉ ae) w w' → G w'
theorem sH {ae : List (Nat × Nat)} (hp : E.all (ve kd ae) = true) (hb : cx.base = w.heap.size) (h : Eff (dC B kd cx E) w w') : Eff (fun k T j => (T, j % kd.sz T) ∉ ae) w w' := by
 rw [List.all_eq_true] at hp
 refine h.iI fun k c T f j hk hc => ?_
 rcases hc with hc | ⟨i, o, hm, -, rfl, jm⟩ | ⟨o, hm, rfl, jm⟩
 · have := aK hk; omega
 · have := hp _ hm
   simp only [ve, Bool.and_eq_true, decide_eq_true_eq, Bool.not_eq_true'] at this
   rw [Nat.add_comm, Nat.add_mul_mod_self_right, Nat.mod_eq_of_lt this.1]
   intro hx
   have := List.contains_iff_mem.2 hx
   simp_all
 · have := hp _ hm
   simp only [ve, Bool.and_eq_true, decide_eq_true_eq, Bool.not_eq_true'] at this
   intro hx
   have := List.contains_iff_mem.2 hx
   simp_all
theorem aH {ev : Ev} {sh : Sh} {ae : List (Nat × Nat)} {f : FuncId} {fn : Func} {s : aj} (hf : P.funcs[f]? = some fn) (h : aW P kd ev FT ae fn s = true) (gH : ∀ f s, FT f = some s → au P f ∧ TC P kd sh B G f s) (hev : rf ev sh G) (hS : Safe kd ae G) (hm : P.follows .mixedOrders = true) : TC P kd sh B G f s := by
 intro N w args hargs hB hlim hwt hG hps hpre
 unfold aW at h
 split at h
 · cases h
 · rename_i c hbody
   simp only [Bool.and_eq_true] at h
   obtain ⟨⟨h1, h2⟩, h3⟩ := h
   have hn := Nat.le_of_ble_eq_true h1
   have st : dB kd (bQ kd sh s args w) s.aS B w fn.ntmps (N + 0) s.pre (rR s.ps 0).at { tmps := args ++ Array.replicate (fn.ntmps - args.size) undef, defers := [] } w := by
     refine ⟨by simp; omega, rfl, hwt, Eff.refl _ _, fun t e he => ?_, hpre⟩
     obtain ⟨j, u, g1, rfl, rfl⟩ := nP _ _ _ _ he
     obtain ⟨v, g2, g3⟩ := hps j u g1
     have : slot { tmps := args ++ Array.replicate (fn.ntmps - args.size) undef, defers := [] } (0 + j) = v := by
       unfold slot
       rw [Nat.zero_add, Array.getD_eq_getD_getElem?, Array.getElem?_append, if_pos (Array.getElem?_eq_some_iff.1 g2).1, g2]
       rfl
     simp only [fq]
     rw [this]
     exact g3
   have fin : ∀ (Γ : Gm) (H : Hm) (n : Nat) (a : Act) (w' : World), Gp P kd fn.results.toList s Γ H n = true → dB kd (bQ kd sh s args w) s.aS B w fn.ntmps (N + n) H Γ.at a w' → a.defers = [] ∧ ∃ v, (results fn a.tmps).run P w' = .ok v w' ∧
       ∃ v', Ending.returned v = .returned v' ∧ WT kd.sig B (N + s.inc) w' ∧ Eff (dC B kd (bQ kd sh s args w) s.aS) w w' ∧ bD kd (bQ kd sh s args w) w' B (N + s.inc) s.res v' ∧ dL kd (bQ kd sh s args w) w' B (N + s.inc) s.post := fun Γ H n a w' hk hs => by
     obtain ⟨r1, rp, v, r2, r3⟩ := aiE (show B ≤ w.heap.size from hB) hs hk
     exact ⟨hs.defers, v, r2, v, rfl, hs.wt.mono (by omega), hs.aS, r3.mono (Eff.refl (fun _ _ _ => False) _) (by omega), fun i T o t ht => (by
       obtain ⟨k1, k2, k3, v, k4, k5⟩ := rp i T o t ht
       exact ⟨k1, k2, k3, v, k4, k5.mono (Eff.refl (fun _ _ _ => False) _) (by omega)⟩)⟩
   refine calls_of_wp hf hbody (aaG (cx := bQ kd sh s args w) gH hev rfl hB (fun w' he => hS w w' hG (sH h2 rfl he)) hm N hlim c _ _ _ _ _ _ _ _ _ h3 st (fun t e he => ?_) (fun Γ H n a w' hk hs _ => ?_) (fun i Γ H n a w' hk => by cases hk) (fun Γ H n a w' hk hs _ => ?_))
   · obtain ⟨j, u, g1, rfl, rfl⟩ := nP _ _ _ _ he
     rfl
   · exact fin Γ H n a w' hk hs
   · exact fin Γ H n a w' hk hs
def aV (P : Program) (kd : Kd) (sh : Sh) (B : Nat) (G : World → Prop) (f : FuncId) (s : aj) (alts : List (AT × Hm)) : Prop :=
 ∀ (N : Nat) (w : World) (args : Array Value), args.size = s.ps.length → B ≤ w.heap.size → N + s.inc ≤ 68719476736 → WT kd.sig B N w → G w →
   (∀ (i : Nat) (t : AT), s.ps[i]? = some t → ∃ v, args[i]? = some v ∧ bD kd (bQ kd sh s args w) w B N t v) →
   dL kd (bQ kd sh s args w) w B N s.pre →
   Calls P f args w fun e w' => ∃ v, e = .returned v ∧ WT kd.sig B (N + s.inc) w' ∧ Eff (dC B kd (bQ kd sh s args w) s.aS) w w' ∧ ∃ q ∈ alts, bD kd (bQ kd sh s args w) w' B (N + s.inc) q.1 v ∧ dL kd (bQ kd sh s args w) w' B (N + s.inc) q.2
end
section
abbrev yQ : List CK := [.int .i64, .int .i64, .int .i64, .int .i64, .int .i64]
abbrev pG : List CK := [.int .i64, .int .i64, .int .i64, .int .i64]
abbrev fu : List CK := [.int .i64, .int .i64, .int .i64]
abbrev kD : List CK := [.int .i64, .int .i64, .int .i64]
abbrev gW : List CK := [.int .i64, .int .i64]
abbrev Ld : List CK := [.int .i64, .int .i64, .int .u64, .int .u64]
abbrev wT : List CK := [.sl 59 1, .int .i64, .int .i64, .int .u64, .int .u64, .int .i64]
abbrev dJ : List CK := [.int .i64, .int .i64, .int .i64, .int .i64, .int .i64, .sl 3 1, .bool]
abbrev ax : List CK := [.int .i64, .int .i64, .int .i64, .int .i64, .int .i64, .int .i64, .int .i64, .int .i64, .int .i64, .int .i64, .int .i64, .int .i64, .int .i64, .int .u64, .int .u64, .int .u64, .int .u64, .sl 3 1]
abbrev bK : List CK := [.int .i64, .int .i64, .int .i64, .int .i64, .int .i64, .int .i64, .int .i64, .int .i64, .int .i64, .sl 123 1, .sl 127 3]
abbrev vv : List CK := [.sl 118 18, .bool, .int .i64, .int .i64]
abbrev af : List CK := [.bool, .int .i64, .int .i64]
abbrev fQ : List CK := [.int .i64, .int .i64, .int .i64, .int .i64, .int .i64, .int .i64, .int .i64, .int .i64, .int .i64, .sl 123 1, .sl 127 3, .sl 59 1, .int .i64, .int .i64, .int .u64, .int .u64, .int .i64, .int .i64, .int .i64, .sl 137 7, .sl 27 5]
abbrev nK : List CK := [.ptr 66 21, .sl 113 1, .int .i64, .sl 3 1, .int .i64, .int .i64, .int .u64, .int .u64]
def kdL : List (Nat × VK) := [
 (3, .c (.int .i64)),
 (4, .c .bool),
 (59, .c (.int .u64)),
 (5, .c (.int .u8)),
 (30, .c (.int .i64)),
 (29, .c (.sl 3 1)),
 (58, .c (.sl 59 1)),
 (23, .c (.sl 5 1)),
 (22, .c (.sl 27 5)),
 (64, .c (.sl 137 7)),
 (139, .c (.sl 118 18)),
 (123, .c (.sl 125 3)),
 (45, .c (.sl 123 1)),
 (46, .c (.sl 127 3)),
 (51, .c (.sl 88 2)),
 (68, .c (.sl 113 1)),
 (113, .c .np),
 (67, .c (.ptr 66 21)),
 (27, .agg yQ),
 (116, .agg pG),
 (125, .agg fu),
 (127, .agg kD),
 (88, .agg gW),
 (61, .agg Ld),
 (63, .agg wT),
 (137, .agg dJ),
 (118, .agg ax),
 (48, .agg bK),
 (141, .agg vv),
 (146, .agg af),
 (66, .agg fQ),
 (70, .agg nK)]
def aQ : Ev := (66, [0, 9, 10, 11, 19])
def ZJ : List (Nat × VK) → Nat → Option VK
 | [], _ => none
 | (d, e) :: l, t => cond (Nat.beq d t) (some e) (ZJ l t)
def kd : Kd := ZJ kdL
def ah : List (Nat × aj) → Nat → Option aj
 | [], _ => none
 | (d, e) :: l, t => cond (Nat.beq d t) (some e) (ah l t)
theorem jk {P : Program} {sh : Sh} {B : Nat} {G : World → Prop} : ∀ f s, ah [] f = some s → au P f ∧ TC P kd sh B G f s := fun _ _ h => by cases h
theorem bn {P : Program} {sh : Sh} {B : Nat} {G : World → Prop} {l : List (Nat × aj)} {g : Nat} {t : aj} (hc : au P g) (ht : TC P kd sh B G g t) (h : ∀ f s, ah l f = some s → au P f ∧ TC P kd sh B G f s) : ∀ f s, ah ((g, t) :: l) f = some s → au P f ∧ TC P kd sh B G f s := by
 intro f s hf
 simp only [ah] at hf
 cases hb : Nat.beq g f with
 | true =>
   rw [hb] at hf
   cases hf
   obtain rfl := Nat.eq_of_beq_eq_true hb
   exact ⟨hc, ht⟩
 | false => rw [hb] at hf; exact h f s hf
abbrev aG (sh : Sh) (G : World → Prop) : Prop := rf aQ sh G
theorem aO {P : Program} {f : FuncId} {fn : Func} (h : P.funcs[f]? = some fn) (h1 : (fn.name == "runtime.NumGoroutine") = false) (h2 : fn.body.isNone = false) : au P f := ⟨fn, h, h1, h2⟩
def aY : List EI := [.ty 66 12, .ty 66 13, .ty 66 14, .ty 66 15, .ty 66 16, .ty 59 0]
def bz : List EI := [.ty 66 20, .ty 27 0, .ty 27 1, .ty 27 2, .ty 27 3, .ty 27 4]
def bC : List EI := [.par 1 118 1, .par 1 118 2, .par 1 118 3, .par 1 118 4, .par 1 118 5, .par 1 118 6, .par 1 118 7, .par 1 118 8, .par 1 118 9, .par 1 118 10, .par 1 118 11, .par 1 118 12, .par 1 118 13, .par 1 118 14, .par 1 118 15, .par 1 118 16]
def ai5 : List EI := [.par 0 118 1, .par 0 118 2, .par 0 118 3, .par 0 118 4, .par 0 118 5, .par 0 118 6, .par 0 118 7, .par 0 118 8, .par 0 118 9, .par 0 118 10, .par 0 118 11, .par 0 118 12, .par 0 118 13, .par 0 118 14, .par 0 118 15, .par 0 118 16]
def bI : List EI := [.ty 137 0, .ty 137 1, .ty 137 2, .ty 137 3, .ty 137 4, .ty 137 5, .ty 137 6]
def ae : List (Nat × Nat) := [(66, 0), (66, 1), (66, 2), (66, 3), (66, 4), (66, 5), (66, 6), (66, 7), (66, 8), (66, 9), (66, 10), (66, 11), (66, 19), (125, 0), (125, 1), (125, 2), (123, 0), (127, 0), (127, 1), (127, 2), (3, 0)]
end
section
def Cr : aj := ⟨[.v (.c (.int .i64)), .v (.c (.int .i64)), .v (.c (.int .i64)), .v (.c (.int .i64))], .v (.c (.int .i64)), [], 0, [], []⟩
def mK : aj := ⟨[.v (.agg bK)], .v (.c (.int .i64)), [], 0, [], []⟩
def oh : aj := ⟨[.v (.agg bK)], .v (.c (.int .i64)), [], 0, [], []⟩
def Ci : aj := ⟨[.v (.agg bK), .v (.c (.int .i64)), .v (.c (.int .i64))], .v (.agg pG), [], 0, [], []⟩
def He : aj := ⟨[.v (.agg bK), .v (.c (.int .i64)), .v (.c (.int .i64))], .v (.c (.int .i64)), [], 0, [], []⟩
def Io : aj := ⟨[.v (.agg bK), .v (.c (.int .i64))], .v (.c (.int .i64)), [], 0, [], []⟩
def uk : aj := ⟨[.v (.agg bK), .v (.c (.int .i64))], .v (.c (.int .i64)), [], 0, [], []⟩
def Cm : aj := ⟨[.v (.agg bK), .v (.c (.int .i64))], .v (.c (.int .i64)), [], 0, [], []⟩
def yl : aj := ⟨[.v (.agg bK), .v (.c (.int .i64))], .v (.c (.int .i64)), [], 0, [], []⟩
def DD : aj := ⟨[.v (.agg bK), .v (.c (.int .i64))], .v (.c (.int .i64)), [], 0, [], []⟩
def Co : aj := ⟨[.v (.agg bK), .v (.c (.int .i64))], .v (.c (.int .i64)), [], 0, [], []⟩
def GG : aj := ⟨[.v (.agg bK), .v (.c (.int .i64))], .v (.c (.int .i64)), [], 0, [], []⟩
def Cb : aj := ⟨[.v (.agg bK), .v (.c (.int .i64))], .v (.c (.int .i64)), [], 0, [], []⟩
def C9 : aj := ⟨[.v (.agg bK), .v (.c (.int .i64))], .v (.c (.int .i64)), [], 0, [], []⟩
def OQ : aj := ⟨[.v (.c (.int .i64))], .v (.c (.int .u64)), [], 0, [], []⟩
def GH : aj := ⟨[.v (.c (.int .i64))], .v (.c (.int .u64)), [], 0, [], []⟩
def aaS : aj := ⟨[.v (.c (.int .u64)), .v (.c (.int .i64))], .v (.c .bool), [], 0, [], []⟩
def Tq : aj := ⟨[.v (.c (.int .u64))], .v (.c (.int .i64)), [], 0, [], []⟩
def Zi : aj := ⟨[.v (.c (.int .u64)), .v (.c (.int .i64))], .v (.c (.int .i64)), [], 0, [], []⟩
def PQ : aj := ⟨[.v (.c (.int .u64))], .v (.c (.int .i64)), [], 0, [], []⟩
def Mm : aj := ⟨[.v (.c (.int .i64)), .v (.c (.int .i64)), .v (.c (.int .i64))], .v (.c (.int .i64)), [], 0, [], []⟩
def Ir : aj := ⟨[.v (.c (.int .i64)), .v (.c (.int .i64)), .v (.c (.int .i64))], .bX [.c (.int .u64), .c .bool], [], 0, [], []⟩
def xW : aj := ⟨[.v (.c (.int .u64))], .bX [.c (.int .i64), .c (.int .i64), .c (.int .i64)], [], 0, [], []⟩
def Ul : aj := ⟨[.v (.c (.int .i64)), .v (.c (.int .i64))], .v (.c (.int .i64)), [], 0, [], []⟩
def VP : aj := ⟨[.ptr 66 11 .env, .v (.c (.int .i64))], .v (.c .bool), [], 0, [], []⟩
def zZ : aj := ⟨[.ptr 66 11 .env, .v (.c (.int .i64)), .v (.c (.int .i64)), .v (.c (.int .u64)), .v (.c (.int .u64))], .bX [.c (.int .u64), .c .bool], aY, 0, [], []⟩
def GA : aj := ⟨[.ptr 66 0 .env, .v (.c (.int .i64))], .v (.c (.int .u64)), aY, 0, [], []⟩
def Ce : aj := ⟨[.ptr 66 0 .env, .v (.c (.int .i64)), .v (.c (.int .u64))], .bX [], aY, 0, [], []⟩
def Qc : aj := ⟨[.ptr 66 0 .env, .v (.c (.int .i64)), .v (.c (.int .u64)), .v (.c (.int .u64))], .v (.c .bool), aY, 0, [], []⟩
def XA : aj := ⟨[.ptr 66 0 .env, .v (.c (.int .i64)), .v (.c (.int .u64))], .v (.c (.int .u64)), aY, 0, [], []⟩
def Me : aj := ⟨[.ptr 66 0 .env, .v (.c (.int .i64)), .v (.c (.int .u64))], .v (.c (.int .u64)), aY, 0, [], []⟩
def zK : aj := ⟨[.ptr 66 0 .env, .v (.c (.int .i64)), .v (.c (.int .u64))], .v (.c (.int .u64)), aY, 0, [], []⟩
def Il : aj := ⟨[.ptr 66 0 .env, .v (.c (.int .i64))], .v (.c .bool), [], 0, [], []⟩
def qD : aj := ⟨[.ptr 66 0 .env, .v (.c (.int .i64)), .v (.c (.int .i64)), .v (.c (.int .i64)), .v (.c (.int .i64)), .v (.c (.int .i64))], .bX [], bz, 2, [], []⟩
def mF : aj := ⟨[.v (.c (.int .i64)), .v (.c (.int .i64))], .v (.agg dJ), [], 0, [], []⟩
def Ew : aj := ⟨[.v (.c (.int .i64)), .v (.c (.int .i64))], .v (.agg af), [], 0, [], []⟩
def Iz : aj := ⟨[.v (.c (.int .u64)), .v (.c (.int .u64))], .v (.c (.int .i64)), [], 0, [], []⟩
def TI : aj := ⟨[.v (.agg pG), .v (.c (.int .u64))], .v (.c (.int .i64)), [], 0, [], []⟩
def uK : aj := ⟨[.v (.c (.int .i64)), .v (.c (.int .i64))], .v (.agg ax), [], 1, [], []⟩
def Hl : aj := ⟨[.v (.agg ax)], .ptr 141 0 .any, [], 1, [], []⟩
def sK : aj := ⟨[.ptr 66 0 .env, .ptr 118 0 (.par 1)], .v (.agg af), bC, 0, [], []⟩
def GU : aj := ⟨[.ptr 66 0 .env, .ptr 118 0 (.par 1)], .v (.agg af), (aY ++ bC), 0, [], []⟩
def Ph : aj := ⟨[.ptr 66 0 .env, .ptr 118 0 (.par 1)], .v (.agg af), (aY ++ bC), 0, [], []⟩
def DZ : aj := ⟨[.ptr 66 0 .env, .ptr 118 0 (.par 1)], .v (.agg af), (aY ++ bC), 0, [], []⟩
def uo : aj := ⟨[.ptr 66 0 .env, .ptr 118 0 (.par 1)], .v (.agg af), (aY ++ bC), 0, [], []⟩
def yT : aj := ⟨[.ptr 66 0 .env, .ptr 118 0 (.par 1)], .v (.agg af), (aY ++ bC), 0, [], []⟩
def De : aj := ⟨[.ptr 118 0 (.par 0)], .v (.c (.int .i64)), [], 0, [], []⟩
def yh : aj := ⟨[.ptr 118 0 (.par 0)], .v (.c (.int .i64)), [], 0, [], []⟩
def xU : aj := ⟨[.ptr 118 0 (.par 0)], .v (.c (.int .i64)), [], 0, [], []⟩
def yj : aj := ⟨[.ptr 66 0 .env, .ptr 118 0 (.par 1)], .v (.agg af), (aY ++ bC ++ bz), 2, [], []⟩
def CG : aj := ⟨[.ptr 66 0 .env, .ptr 118 0 (.par 1)], .v (.agg af), (aY ++ bC ++ bz), 2, [], []⟩
def Cw : aj := ⟨[.ptr 66 0 .env, .ptr 118 0 (.par 1)], .v (.agg af), (aY ++ bC ++ bz), 2, [], []⟩
def Ef : aj := ⟨[.ptr 66 0 .env, .ptr 118 0 (.par 1)], .v (.agg af), (aY ++ bC ++ bz), 2, [], []⟩
def GV : aj := ⟨[.ptr 66 0 .env, .ptr 118 0 (.par 1)], .v (.agg af), (aY ++ bC ++ bz), 2, [], []⟩
def CP : aj := ⟨[.ptr 66 0 .env, .ptr 118 0 (.par 1)], .v (.agg af), (aY ++ bC), 0, [], []⟩
def uC : aj := ⟨[.ptr 66 0 .env, .ptr 118 0 (.par 1), .v (.c (.int .i64))], .v (.agg af), (bC ++ bz), 2, [], []⟩
def sM : aj := ⟨[.ptr 66 0 .env, .ptr 118 0 (.par 1), .v (.c (.int .i64)), .v (.c (.int .i64))], .v (.agg af), bC, 0, [], []⟩
def uD : aj := ⟨[.ptr 118 0 (.par 0), .v (.c (.int .i64)), .v (.c (.int .i64))], .v (.agg af), ai5, 0, [], []⟩
def ru : aj := ⟨[.ptr 66 0 .env, .ptr 118 0 (.par 1), .v (.c (.int .i64)), .v (.c (.int .i64))], .bX [], (bC ++ bz), 2, [], []⟩
def rC : aj := ⟨[.ptr 118 0 (.par 0)], .bX [.agg ax, .c .bool], [], 0, [], []⟩
def qy : aj := ⟨[.ptr 66 0 .env, .ptr 118 0 (.par 1)], .bX [.agg ax, .c .bool], bC, 1, [], []⟩
def aD : aj := ⟨[.ptr 66 0 .env, .ptr 118 0 (.par 1)], .v (.agg af), (aY ++ bz ++ bI), 2, [], []⟩
def Dv : aj := ⟨[.ptr 66 0 .env, .ptr 118 0 (.par 1)], .v (.agg af), (aY ++ bC ++ bz ++ bI), 2, [], []⟩
def aF : aj := ⟨[.ptr 66 0 .env, .ptr 118 0 (.par 1)], .v (.agg af), (aY ++ bC), 0, [], []⟩
def D6 : List (Nat × aj) := (131, Cr) :: ([] : List (Nat × aj))
def xM : List (Nat × aj) := (82, mK) :: D6
def Ei : List (Nat × aj) := (64, oh) :: xM
def Dh : List (Nat × aj) := (83, Ci) :: Ei
def IQ : List (Nat × aj) := (171, He) :: Dh
def Ii : List (Nat × aj) := (142, Io) :: IQ
def uH : List (Nat × aj) := (152, uk) :: Ii
def Cv : List (Nat × aj) := (153, Cm) :: uH
def zw : List (Nat × aj) := (84, yl) :: Cv
def Dk : List (Nat × aj) := (150, DD) :: zw
def Cf : List (Nat × aj) := (148, Co) :: Dk
def Jo : List (Nat × aj) := (158, GG) :: Cf
def Dr : List (Nat × aj) := (151, Cb) :: Jo
def Qf : List (Nat × aj) := (149, C9) :: Dr
def Cn : List (Nat × aj) := (137, OQ) :: Qf
def Tn : List (Nat × aj) := (94, GH) :: Cn
def Zl : List (Nat × aj) := (139, aaS) :: Tn
def TT : List (Nat × aj) := (98, Tq) :: Zl
def Qn : List (Nat × aj) := (172, Zi) :: TT
def abM : List (Nat × aj) := (155, PQ) :: Qn
def BU : List (Nat × aj) := (154, Mm) :: abM
def TN : List (Nat × aj) := (140, Ir) :: BU
def KG : List (Nat × aj) := (143, xW) :: TN
def Im : List (Nat × aj) := (26, Ul) :: KG
def afG : List (Nat × aj) := (170, VP) :: Im
def xA : List (Nat × aj) := (136, zZ) :: afG
def G7 : List (Nat × aj) := (97, GA) :: xA
def D9 : List (Nat × aj) := (100, Ce) :: G7
def MN : List (Nat × aj) := (99, Qc) :: D9
def Wi : List (Nat × aj) := (93, XA) :: MN
def NU : List (Nat × aj) := (138, Me) :: Wi
def Oa : List (Nat × aj) := (141, zK) :: NU
def Ha : List (Nat × aj) := (85, Il) :: Oa
def I8 : List (Nat × aj) := (113, qD) :: Ha
def Dx : List (Nat × aj) := (65, mF) :: I8
def NA : List (Nat × aj) := (95, Ew) :: Dx
def Tv : List (Nat × aj) := (134, Iz) :: NA
def GM : List (Nat × aj) := (135, TI) :: Tv
def uN : List (Nat × aj) := (133, uK) :: GM
def IK : List (Nat × aj) := (54, Hl) :: uN
def sP : List (Nat × aj) := (161, sK) :: IK
def Ib : List (Nat × aj) := (90, GU) :: sP
def Nh : List (Nat × aj) := (91, Ph) :: Ib
def Cs : List (Nat × aj) := (92, DZ) :: Nh
def uz : List (Nat × aj) := (96, uo) :: Cs
def yF : List (Nat × aj) := (101, yT) :: uz
def Cq : List (Nat × aj) := (144, De) :: yF
def yL : List (Nat × aj) := (145, yh) :: Cq
def zg : List (Nat × aj) := (147, xU) :: yL
def za : List (Nat × aj) := (102, yj) :: zg
def Dq : List (Nat × aj) := (104, CG) :: za
def CF : List (Nat × aj) := (105, Cw) :: Dq
def DT : List (Nat × aj) := (106, Ef) :: CF
def Jk : List (Nat × aj) := (107, GV) :: DT
def Dc : List (Nat × aj) := (109, CP) :: Jk
def uG : List (Nat × aj) := (112, uC) :: Dc
def sJ : List (Nat × aj) := (114, sM) :: uG
def uy : List (Nat × aj) := (115, uD) :: sJ
def rz : List (Nat × aj) := (117, ru) :: uy
def ry : List (Nat × aj) := (86, rC) :: rz
def aC : List (Nat × aj) := (88, qy) :: ry
def Eo : List (Nat × aj) := (146, aD) :: aC
def L6 : List (Nat × aj) := (103, Dv) :: Eo
def bu : List (Nat × aj) := (108, aF) :: L6
end
end Go.Proofs.YtncnepmgmphanaaGreatDoor
