/- A checker of the types of a function's code, ninth part: calls with more than one way out. Plain; no condition. -/
import Derived.Test.YtncnepmgmphanaaGreatDoorMg04
set_option linter.unusedVariables false
set_option linter.unusedSimpArgs false
set_option linter.unusedSectionVars false
namespace Go.Proofs.YtncnepmgmphanaaGreatDoor
open Go.RowKit
variable {P : Program} {kd : Kd} {cx : Cx} {w w' w0 : World} {B N N' : Nat} {E : List EI} {FT : FuncId → Option aj} {FA : FuncId → Option (aj × List (AT × Hm))} {od : Od} {G : World → Prop} {a : Act} {nt : Nat}
def GQ : AT → Bool
 | .own _ _ => true
 | .oL _ _ => true
 | t => jl t
theorem X9 {t : AT} {v : Value} {rH : Cx} (hsh : rH.sh = cx.sh) (hb : cx.base ≤ rH.base) (h : GQ t = true) (hv : bD kd rH w B N t v) : bD kd cx w B N t v := by
 unfold GQ at h
 split at h
 · exact aU.lower (show aU w rH.base N _ v from hv) hb
 · exact ⟨aU.lower (show aU w rH.base N _ v from hv.1) hb, hv.2⟩
 · exact gZ hsh h hv
def AY (od : Od) (post : Hm) (ps : List AT) (args : Array Operand) (e : (Nat × Nat × Nat) × AT) : Option ((Nat × Nat × Nat) × AT) :=
 match ps[e.1.1]?, args[e.1.1]? with
 | some (.ptr T _ _), some x => match od [] x with
   | some (.ptr T' _ (.par m)) => if decide (T = T') && decide (e.1.2.1 = T) && GQ e.2 && decide (post.at (e.1.1, e.1.2.1, e.1.2.2) = some e.2) then some ((m, T, e.1.2.2), e.2) else none
   | _ => none
 | _, _ => none
theorem PS {H : Hm} {a : Act} {f : FuncId} {args : Array Operand} {oO : Array TypeId} {dst : Option Nat} {ty : TypeId} {pos : String} {after : Array Edge} {guard : Option (Nat × Bool)} {s : aj} {alts : List (AT × Hm)} (hc : (tC kd od s.ps args && s.aS.all (sD kd od s.ps args) && (s.aS.flatMap (jH od args)).all (lU kd E) && alts.all (fun q => jl q.1) && s.pre.all (vW kd od H s.ps args)) = true) (HC : au P f) (hT : aV P kd cx.sh B G f s alts) (hH : dL kd cx w B N H)
   (dF : ∀ x t, od [] x = some t → bD kd cx w B N t (a.eval x))
   (hw : WT kd.sig B N w) (he' : Eff (dC B kd cx E) w0 w) (hb : cx.base ≤ w.heap.size) (hBb : B ≤ cx.base) (hG : G w) (hlim : N + s.inc ≤ 68719476736) :
   (s.aS.flatMap (jH od args)).all (lU kd E) = true ∧ nL P a ⟨dst, .call ⟨.value (.func f), args, oO⟩, ty, pos, after, guard⟩ w (fun v w' => ∃ q ∈ alts, Left kd cx E (s.aS.flatMap (jH od args)) B w0 w (some q.1) (N + s.inc) v w' ∧ ∀ e ∈ q.2.filterMap (AY od q.2 s.ps args), ng kd cx w' B (N + s.inc) e) := by
 have hB : B ≤ w.heap.size := Nat.le_trans hBb hb
 simp only [Bool.and_eq_true] at hc
 obtain ⟨⟨⟨⟨hc1, hc2⟩, ZR⟩, hc3⟩, hc4⟩ := hc
 refine ⟨ZR, ?_⟩
 obtain ⟨fn, hfn, hname, hbody⟩ := HC
 simp only [tC, Bool.and_eq_true, decide_eq_true_eq, List.all_eq_true, List.mem_range] at hc1
 have hsh : (bQ kd cx.sh s (args.map a.eval) w).sh = cx.sh := rfl
 have hps : ∀ (i : Nat) (t : AT), s.ps[i]? = some t → ∃ v, (args.map a.eval)[i]? = some v ∧ bD kd (bQ kd cx.sh s (args.map a.eval) w) w B N t v := fun i t ht => by
   have hil := (List.getElem?_eq_some_iff.1 ht).1
   have hx := hc1.2 i hil
   rw [ht] at hx
   split at hx
   · rename_i f' x h1 h2
     cases h1
     split at hx
     · rename_i u hu
       have hv := dF x u hu
       refine ⟨a.eval x, by rw [Array.getElem?_map, h2]; rfl, ?_⟩
       unfold WQ at hx
       split at hx
       · rename_i T o j
         simp only [Bool.and_eq_true, decide_eq_true_eq] at hx
         obtain ⟨rfl, hx⟩ := hx
         split at hx
         · rename_i T' o' g
           simp only [Bool.and_eq_true, decide_eq_true_eq] at hx
           obtain ⟨rfl, rfl⟩ := hx
           obtain ⟨b, r, e, h5, h6, h7⟩ := hv
           refine ⟨b, r, e, h5, h6, ?_⟩
           refine ⟨?_, by obtain ⟨c', -, hcb, -⟩ := h6; exact aK hcb⟩
           simp only [bQ, l8, ht, Array.getElem?_map, h2, Option.map_some, e]
           rw [mQ h5]
         · cases hx
       · rename_i T o
         split at hx
         · rename_i T' o'
           simp only [Bool.and_eq_true, decide_eq_true_eq] at hx
           obtain ⟨rfl, rfl⟩ := hx
           exact hv
         · cases hx
       · rename_i k
         split at hx
         · simp only [decide_eq_true_eq] at hx
           subst hx
           exact hv
         · simp only [Bool.and_eq_true, decide_eq_true_eq] at hx
           obtain ⟨⟨rfl, h6⟩, h7⟩ := hx
           exact ⟨_, hv.1, hv.2, h6, h7⟩
         · cases hx
       · rename_i o
         simp only [decide_eq_true_eq] at hx
         subst hx
         exact hv
       · rename_i k n
         simp only [decide_eq_true_eq] at hx
         subst hx
         exact hv
       · rename_i k n
         simp only [decide_eq_true_eq] at hx
         subst hx
         exact hv
       · rename_i k
         exact nX hBb hx hv
       · cases hx
     · cases hx
   · cases hx
 have hpre : dL kd (bQ kd cx.sh s (args.map a.eval) w) w B N s.pre := fun i T o t ht => by
   rw [List.all_eq_true] at hc4
   have hx := hc4 _ (Hm.at_mem ht)
   simp only [vW] at hx
   split at hx
   · rename_i T1 o1 g1 x h1 h2
     split at hx
     · rename_i T2 o2 m h3
       simp only [Bool.and_eq_true, decide_eq_true_eq] at hx
       obtain ⟨⟨⟨rfl, rfl⟩, hfree⟩, hx⟩ := hx
       split at hx
       · rename_i t' ht'
         obtain ⟨k1, k2, k3, v, k4, k5⟩ := hH m T o t' ht'
         obtain ⟨b, r, e, h5, h6, h7⟩ := dF x _ h3
         simp only [tY] at h7
         have hpi : (bQ kd cx.sh s (args.map a.eval) w).ps i = cx.ps m := by
           rw [h7.1]
           simp only [bQ, l8, h1, Array.getElem?_map, h2, Option.map_some, e]
           rw [mQ h5]
         rw [hpi]
         exact ⟨Nat.lt_of_lt_of_le k1 hb, k2, k3, v, k4, gZ hsh.symm hfree (AQ hBb hx k5)⟩
       · cases hx
     · cases hx
   · cases hx
 refine .inr (.inr ⟨f, args.map a.eval, w, ?_, (hT N w (args.map a.eval) (by simpa using hc1.1) hB hlim hw hG hps hpre).mono ?_⟩)
 · simp [execOp, resolve, Act.eval, Deferred.ofValue, invoke, run_callFunc_enter hfn hname hbody]
 · rintro e w' ⟨v, rfl, g1, g2, q, hq, g3, g5⟩
   have g4 : Eff (dC B kd cx (s.aS.flatMap (jH od args))) w w' := g2.iI fun k c T f j hk hj => JU hps dF hc2 hk hj
   refine ⟨v, rfl, q, hq, ⟨g1, he'.trans (g4.mono fun k T j _ hcc => rY ZR hcc), g4, fun t e => ?_⟩, fun e he => ?_⟩
   · cases e
     exact gZ hsh (List.all_eq_true.1 hc3 q hq) g3
   · simp only [List.mem_filterMap] at he
     obtain ⟨⟨⟨i, U, o⟩, t⟩, hm, hx⟩ := he
     unfold AY at hx
     split at hx
     · rename_i T1 o1 g1' x h1 h2
       split at hx
       · rename_i T2 o2 m h3
         split at hx
         · rename_i hcc
           cases hx
           simp only [Bool.and_eq_true, decide_eq_true_eq] at hcc
           obtain ⟨⟨⟨rfl, rfl⟩, hfree⟩, hat⟩ := hcc
           obtain ⟨k1, k2, k3, v', k4, k5⟩ := g5 i _ o t hat
           obtain ⟨b, r, e, h5, h6, h7⟩ := dF x _ h3
           simp only [tY] at h7
           have hpi : (bQ kd cx.sh s (args.map a.eval) w).ps i = cx.ps m := by
             rw [h7.1]
             simp only [bQ, l8, h1, Array.getElem?_map, h2, Option.map_some, e]
             rw [mQ h5]
           rw [hpi] at k3 k4
           exact ⟨by rw [h7.1]; exact h7.2, k2, k3, v', k4, X9 hsh hb hfree k5⟩
         · cases hx
       · cases hx
     · cases hx
def xH : Op → Option (FuncId × Array Operand)
 | .call ⟨.value (.func f), args, _⟩ => some (f, args)
 | _ => none
def Lp (FA : FuncId → Option (aj × List (AT × Hm))) (o : Oper) : Option (Nat × Bool) → Option (Array Operand × aj × List (AT × Hm))
 | some _ => none
 | none => (xH o.op).bind fun c => (FA c.1).map fun q => (c.2, q)
def IV (P : Program) (kd : Kd) (ev : Ev) (FT : FuncId → Option aj) (FA : FuncId → Option (aj × List (AT × Hm))) (E : List EI) (nt lim : Nat) (ops : List Oper) : List Oper → Gm → List Nat → Hm → Nat → (Gm → List Nat → Hm → Nat → Bool) → Bool
 | [], Γ, gs, H, n, k => k Γ gs H n
 | o :: rest, Γ, gs, H, n, k => match ji ops o with
   | none => false
   | some g => match Lp FA o g with
     | some (args, s, alts) => (tC kd (fO Γ.at []) s.ps args && s.aS.all (sD kd (fO Γ.at []) s.ps args) && (s.aS.flatMap (jH (fO Γ.at []) args)).all (lU kd E) && alts.all (fun q => jl q.1) && s.pre.all (vW kd (fO Γ.at []) H s.ps args)) && Nat.ble (n + s.inc) lim &&
         alts.all fun q => match CB nt Γ gs o.dst none (some q.1) with
           | some (Γ', gs') => IV P kd ev FT FA E nt lim ops rest Γ' gs' (q.2.filterMap (AY (fO Γ.at []) q.2 s.ps args) ++ H.cut (s.aS.flatMap (jH (fO Γ.at []) args))) (n + s.inc) k
           | none => false
     | none => match q9 P kd ev FT E H (fO Γ.at (gI Γ.at g)) o.op with
       | none => false
       | some (r, inc, D) => match CB nt Γ gs o.dst g r with
         | none => false
         | some (Γ', gs') => Nat.ble (n + inc) lim && IV P kd ev FT FA E nt lim ops rest Γ' gs' (kZ g (jI kd FT (fO Γ.at (gI Γ.at g)) o.op) (H.cut D)) (n + inc) k
theorem pO {N0 lim : Nat} {ev : Ev} (gH : ∀ f s, FT f = some s → au P f ∧ TC P kd cx.sh B G f s) (qU : ∀ f q, FA f = some q → au P f ∧ aV P kd cx.sh B G f q.1 q.2) (hev : rA ev cx G) (hb : cx.base = w0.heap.size) (hB : B ≤ w0.heap.size) (HG : ∀ w, Eff (dC B kd cx E) w0 w → G w) (hlim : N0 + lim ≤ 68719476736) {ops : List Oper} {Q : Exit → Act → World → Prop} {k : Gm → List Nat → Hm → Nat → Bool} (hQ : ∀ Γ gs H n a w, k Γ gs H n = true → dB kd cx E B w0 nt (N0 + n) H Γ.at a w → oM Γ gs → Q .normal a w) :
   ∀ (rest : List Oper) (Γ : Gm) (gs : List Nat) (H : Hm) (n : Nat) (a : Act) (w : World), IV P kd ev FT FA E nt lim ops rest Γ gs H n k = true → dB kd cx E B w0 nt (N0 + n) H Γ.at a w → oM Γ gs → wpList P ops.toArray Q rest a w
 | [], Γ, gs, H, n, a, w, h, hs, hg => wpList_nil (hQ Γ gs H n a w h hs hg)
 | o :: rest, Γ, gs, H, n, a, w, h, hs, hgs => by
   have hsz := hs.aS.size
   simp only [IV] at h
   split at h
   · cases h
   · rename_i g hg
     split at h
     · rename_i args s alts hcall
       obtain rfl : g = none := by cases g with
         | none => rfl
         | some q => cases hcall
       simp only [Lp] at hcall
       cases hco : xH o.op with
       | none => rw [hco] at hcall; cases hcall
       | some c =>
         rw [hco] at hcall
         simp only [Option.bind_some, Option.map_eq_some_iff] at hcall
         obtain ⟨q0, hfa, hq0⟩ := hcall
         obtain ⟨f, args'⟩ := c
         cases hq0
         obtain ⟨HC, HT⟩ := qU f _ hfa
         simp only [Bool.and_eq_true] at h
         obtain ⟨⟨hc, hle⟩, hall⟩ := h
         have Hq := Nat.le_of_ble_eq_true hle
         obtain ⟨dst, op, ty, pos, after, guard⟩ := o
         simp only at hco hall
         unfold xH at hco
         split at hco
         · rename_i f' args' oO
           cases hco
           refine wpList_step fun K hK => ?_
           have hg1 : ∀ q, (none : Option (Nat × Bool)) = some q → slot a q.1 = .bool q.2 := fun q e => by cases e
           rw [if_pos ((iM hg).2 hg1)]
           obtain ⟨hD, hout⟩ := PS (dst := dst) (ty := ty) (pos := pos) (after := after) (guard := guard) (oO := oO) (by simpa only [Bool.and_eq_true] using hc) HC HT hs.hm (fun x t hx => AL hs.lk (by simp) [] x t hx (by simp)) hs.wt hs.aS (by omega) (by omega) (HG w hs.aS) (by show N0 + n + s.inc ≤ _; omega)
           refine hout.wp fun v w' hl => hK _ _ ?_
           obtain ⟨q, hq, ⟨l1, l2, l3, l4⟩, l5⟩ := hl
           have hx := List.all_eq_true.1 hall q hq
           split at hx
           · rename_i Γ1 gs1 hp
             have hH2 := (hs.hm.cut hD l3 (Nat.le_add_right _ s.inc)).append l5
             obtain ⟨p1, p2⟩ := qP hs hgs hp l1 l2 l3 (Nat.le_add_right _ _) hH2 (fun _ => l4) (fun hn => absurd hg1 hn)
             exact pO gH qU hev hb hB HG hlim hQ rest Γ1 gs1 _ (n + s.inc) _ w' hx (by rw [← Nat.add_assoc]; exact p1) p2
           · cases hx
         · cases hco
     · split at h
       · cases h
       · rename_i r inc D ho
         split at h
         · cases h
         · rename_i Γ1 gs1 hp
           simp only [Bool.and_eq_true] at h
           obtain ⟨hle, h⟩ := h
           have Hq := Nat.le_of_ble_eq_true hle
           refine wpList_step fun K hK => ?_
           split
           · rename_i hw
             have hg1 := (iM hg).1 hw
             obtain ⟨hD, hout⟩ := yY ho gH hev hs.hm (fun K' x t hx hk => AL hs.lk (tN hs.lk hg1) K' x t hx hk) hs.wt hs.aS (by omega) (by omega) (HG w hs.aS) (by omega)
             refine hout.wp fun v w' hl => hK _ _ ?_
             obtain ⟨⟨l1, l2, l3, l4⟩, l5⟩ := hl
             have hH1 : dL kd cx w' B (N0 + n + inc) (H.cut D) := hs.hm.cut hD l3 (Nat.le_add_right _ _)
             have hH2 : dL kd cx w' B (N0 + n + inc) (kZ g (jI kd FT (fO Γ.at (gI Γ.at g)) o.op) (H.cut D)) := by
               unfold kZ
               split
               · exact hH1.append l5
               · exact hH1
             obtain ⟨p1, p2⟩ := qP hs hgs hp l1 l2 l3 (Nat.le_add_right _ _) hH2 (fun _ => l4) (fun hn => absurd hg1 hn)
             exact pO gH qU hev hb hB HG hlim hQ rest Γ1 gs1 _ (n + inc) _ w' h (by rw [← Nat.add_assoc]; exact p1) p2
           · rename_i hw
             have hg1 := fun hh => hw ((iM hg).2 hh)
             have hgn : g ≠ none := fun e => hg1 (by subst e; simp)
             have hH2 : dL kd cx w B (N0 + n + inc) (kZ g (jI kd FT (fO Γ.at (gI Γ.at g)) o.op) (H.cut D)) := by
               have : kZ g (jI kd FT (fO Γ.at (gI Γ.at g)) o.op) (H.cut D) = H.cut D := by
                 cases g with
                 | none => exact absurd rfl hgn
                 | some q => rfl
               rw [this]
               exact fun i T o t ht => by
                 obtain ⟨k1, k2, k3, v, k4, k5⟩ := hs.hm i T o t (Hm.sS ht).1
                 exact ⟨k1, k2, k3, v, k4, k5.mono (Eff.refl (fun _ _ _ => False) w) (Nat.le_add_right _ _)⟩
             obtain ⟨p1, p2⟩ := qP hs hgs hp (hs.wt.mono (Nat.le_add_right _ inc)) hs.aS (Eff.refl (fun _ _ _ => False) _) (Nat.le_add_right _ _) hH2 (fun hh => absurd hh hg1) (fun _ => rfl)
             exact hK _ _ (pO gH qU hev hb hB HG hlim hQ rest Γ1 gs1 _ (n + inc) _ w h (by rw [← Nat.add_assoc]; exact p1) p2)
def pR (sh : Sh) : Option Int → Sh
 | none => sh
 | some x => { sh with vals := fun j => if j = 8 then .int .i64 x else sh.vals j }
theorem TR (sh : Sh) (y : Option Int) (x : Int) : pR (pR sh y) (some x) = pR sh (some x) := by
 cases y with
 | none => rfl
 | some z =>
   simp only [pR]
   congr 1
   funext j
   split <;> rfl
def rJ (cx : Cx) (x : Int) : Cx := { cx with vals := fun j => if j = 8 then .int .i64 x else cx.vals j }
def uj : Option kW → Option kW
 | some (none, t) => match iT t with
   | some k => some (none, .v (.c (.int k)))
   | none => if sV t then some (none, .v (.c .bool)) else match t with
     | .val j => if Nat.beq j 8 then none else some (none, .val j)
     | .qc j E s => if Nat.beq j 8 then none else some (none, .qc j E s)
     | t => some (none, t)
 | _ => none
def fD (Γ : Gm) : Gm := Γ.map fun p => (p.1, uj p.2)
def afD (kd : Kd) : Option kW → Option kW → Bool
 | none, _ => true
 | some (none, u), some (none, t) => Ga kd t u
 | _, _ => false
def fits (kd : Kd) (ΓL Γ' : Gm) (d : Nat) : Bool := ΓL.all fun p => Nat.beq p.1 d || afD kd (ΓL.at p.1) (Γ'.at p.1)
def Ap : Code → Option Oper
 | .region _ ops _ => ops.toList.head?
 | .seq a _ => Ap a
 | .block _ b => Ap b
 | .scope b => Ap b
 | _ => none
def TL (b : Code) : Option Nat := match Ap b with
 | some o => match o.op with
   | .move (.tmp d) => some d
   | _ => none
 | none => none
def Gj : AT → Bool
 | .cnt _ => false
 | .xc _ => false
 | .val j => !Nat.beq j 8
 | .qc j _ _ => !Nat.beq j 8
 | .wW j => !Nat.beq j 8
 | .wY j => !Nat.beq j 8
 | _ => true
theorem Te {t : AT} {v : Value} {x : Int} (h : Gj t = true) : bD kd (rJ cx x) w B N t v ↔ bD kd cx w B N t v := by
 cases t with
 | cnt o => cases h
 | xc o => cases h
 | val j =>
   have : ¬ j = 8 := fun e => by subst e; simp [Gj] at h
   simp only [bD, rJ, if_neg this]
 | qc j E s =>
   have : ¬ j = 8 := fun e => by subst e; simp [Gj] at h
   simp only [bD, rJ, if_neg this]
 | wW j =>
   have : ¬ j = 8 := fun e => by subst e; simp [Gj] at h
   simp only [bD, rJ, if_neg this]
 | wY j =>
   have : ¬ j = 8 := fun e => by subst e; simp [Gj] at h
   simp only [bD, rJ, if_neg this]
 | ptr T o g => cases g <;> exact Iff.rfl
 | _ => exact Iff.rfl
theorem vX {e : Option kW} {x : kW} (h : uj e = some x) : x.1 = none ∧ Gj x.2 = true := by
 unfold uj at h
 split at h
 · rename_i t
   by_cases h8 : Gj t = true
   · split at h
     · cases h; exact ⟨rfl, rfl⟩
     · split at h
       · cases h; exact ⟨rfl, rfl⟩
       · split at h
         · split at h
           · cases h
           · cases h; exact ⟨rfl, h8⟩
         · split at h
           · cases h
           · cases h; exact ⟨rfl, h8⟩
         · cases h; exact ⟨rfl, h8⟩
   · cases t with
     | wW j => cases h; exact ⟨rfl, rfl⟩
     | wY j => cases h; exact ⟨rfl, rfl⟩
     | qc j E s =>
       cases hj : Nat.beq j 8 with
       | true =>
         simp only [iT, sV, hj] at h
         cases h
       | false =>
         simp only [Gj, hj] at h8
         exact absurd rfl h8
     | cnt o => cases h; exact ⟨rfl, rfl⟩
     | xc o => cases h; exact ⟨rfl, rfl⟩
     | val j =>
       cases hj : Nat.beq j 8 with
       | true =>
         simp only [iT, sV, hj] at h
         cases h
       | false =>
         simp only [Gj, hj] at h8
         exact absurd rfl h8
     | _ => exact absurd rfl h8
 · cases h
theorem aew {e : Option kW} {x : kW} {t : Nat} (h : uj e = some x) (hs : ∀ y, e = some y → fq kd cx a w B N y t) : bD kd cx w B N x.2 (slot a t) := by
 unfold uj at h
 split at h
 · rename_i u
   have hu : bD kd cx w B N u (slot a t) := hs _ rfl
   split at h
   · rename_i k hk
     cases h
     exact iX hk hu
   · split at h
     · rename_i hb
       cases h
       exact zW hb hu
     · split at h
       · split at h
         · cases h
         · cases h; exact hu
       · split at h
         · cases h
         · cases h; exact hu
       · cases h; exact hu
 · cases h
theorem qB {t : Nat} : ∀ (Γ : Gm), Gm.at (fD Γ) t = uj (Γ.at t)
 | [] => rfl
 | (d, e) :: Γ => by
   have ih := qB (t := t) Γ
   unfold fD at ih ⊢
   simp only [List.map_cons, Gm.at_set]
   split
   · rfl
   · exact ih
theorem fE (Γ : Gm) : Plain (fD Γ) := fun t e he => by
 rw [qB] at he
 exact (vX he).1
theorem lV {Γ : Gm} {H : Hm} (h : dB kd cx E B w0 nt N H Γ.at a w) : dB kd cx E B w0 nt N [] (fD Γ).at a w := by
 refine ⟨h.size, h.defers, h.wt, h.aS, fun t e he => ?_, fun i T o t ht => by cases ht⟩
 rw [qB] at he
 have h1 := aew he (fun y hy => h.lk t y hy)
 obtain ⟨g, u⟩ := e
 cases (vX he).1
 exact h1
theorem jF {Γ : Gm} {x : Int} : dB kd (rJ cx x) E B w0 nt N [] (fD Γ).at a w ↔ dB kd cx E B w0 nt N [] (fD Γ).at a w := by
 constructor <;> refine fun h => ⟨h.size, h.defers, h.wt, h.aS, fun t e he => ?_, fun i T o t ht => by cases ht⟩ <;>
 · have h1 := h.lk t e he
   rw [qB] at he
   obtain ⟨g, u⟩ := e
   have h2 := vX he
   cases h2.1
   first
     | exact (Te h2.2).1 h1
     | exact (Te h2.2).2 h1
def qW : Value → Int
 | .int _ n => n
 | _ => 0
theorem pW {Γ : Gm} {d : Nat} {u : AT} (h : Plain Γ) : Plain ((d, some (none, u)) :: Γ) := fun t e he => by
 rw [Gm.at_set] at he
 split at he
 · cases he; rfl
 · exact h t e he
theorem Ak {Γ : Gm} {d : Nat} {u : AT} (h : dB kd cx E B w0 nt N [] Γ.at a w) (hd : bD kd cx w B N u (slot a d)) : dB kd cx E B w0 nt N [] (Gm.at ((d, some (none, u)) :: Γ)) a w := by
 refine ⟨h.size, h.defers, h.wt, h.aS, fun t e he => ?_, h.hm⟩
 rw [Gm.at_set] at he
 split at he
 · rename_i e'
   subst e'
   cases he
   exact hd
 · exact h.lk t e he
theorem Gm.Kl : ∀ {Γ : Gm} {t : Nat} {e : kW}, Γ.at t = some e → ∃ x, (t, x) ∈ Γ
 | [], t, e, h => by cases h
 | (d, x) :: Γ, t, e, h => by
   rw [Gm.at_set] at h
   split at h
   · rename_i e'
     subst e'
     exact ⟨x, by simp⟩
   · obtain ⟨y, hy⟩ := Gm.Kl h
     exact ⟨y, List.mem_cons_of_mem _ hy⟩
theorem Ua {Γ Γ' : Gm} {H : Hm} {d : Nat} (hBb : B ≤ cx.base) (h : dB kd cx E B w0 nt N H Γ'.at a w) (hf : fits kd (fD Γ) Γ' d = true) (hd : ∀ e, (fD Γ).at d = some e → bD kd cx w B N e.2 (slot a d)) : dB kd cx E B w0 nt N [] (fD Γ).at a w := by
 refine ⟨h.size, h.defers, h.wt, h.aS, fun t e he => ?_, fun i T o t ht => by cases ht⟩
 have hp := fE Γ t e he
 obtain ⟨g, u⟩ := e
 cases hp
 by_cases htd : t = d
 · subst htd; exact hd _ he
 · obtain ⟨x, hx⟩ := Gm.Kl he
   have h1 := List.all_eq_true.1 hf _ hx
   simp only [Bool.or_eq_true] at h1
   rcases h1 with h1 | h1
   · exact absurd (Nat.eq_of_beq_eq_true h1) htd
   · simp only [he] at h1
     unfold afD at h1
     split at h1
     · rename_i e1; cases e1
     · rename_i u' t' e1 e2
       cases e1
       exact CS hBb h1 (h.lk t _ e2)
     · cases h1
def iW (P : Program) (kd : Kd) (ev : Ev) (FT : FuncId → Option aj) (FA : FuncId → Option (aj × List (AT × Hm))) (lp : Bool) (E : List EI) (nt lim : Nat) : Code → Gm → Hm → Nat → (Gm → Hm → Nat → Bool) → (Nat → Gm → Hm → Nat → Bool) → (Gm → Hm → Nat → Bool) → Bool
 | .skip, Γ, H, n, kn, _, _ => kn Γ H n
 | .region _ ops true, Γ, H, n, kn, _, _ => match vo P kd ev FT E nt lim n ops.toList Γ (FK P kd ev FT E ops.toList Γ H) with
   | some (Γ', H', m) => kn Γ' H' (n + m)
   | none => false
 | .region _ ops false, Γ, H, n, kn, _, _ => IV P kd ev FT FA E nt lim ops.toList ops.toList Γ [] H n fun Γ' gs' H' n' => kn (sU Γ' gs') H' n'
 | .seq a b, Γ, H, n, kn, kx, kr => iW P kd ev FT FA lp E nt lim a Γ H n (fun Γ H n => iW P kd ev FT FA lp E nt lim b Γ H n kn kx kr) kx kr
 | .cond c x y, Γ, H, n, kn, kx, kr => match mE Γ.at [] c with
   | some (.kb true) => iW P kd ev FT FA lp E nt lim x Γ H n kn kx kr
   | some (.kb false) => iW P kd ev FT FA lp E nt lim y Γ H n kn kx kr
   | some (.v (.c .bool)) => iW P kd ev FT FA lp E nt lim x Γ H n kn kx kr && iW P kd ev FT FA lp E nt lim y Γ H n kn kx kr
   | _ => false
 | .block id b, Γ, H, n, kn, kx, kr => iW P kd ev FT FA lp E nt lim b Γ H n kn (fun i Γ H n => if i = id then kn Γ H n else kx i Γ H n) kr
 | .exit id, Γ, H, n, _, kx, _ => kx id Γ H n
 | .scope b, Γ, H, n, kn, kx, kr => iW P kd ev FT FA lp E nt lim b Γ H n kn kx kr
 | .ret, Γ, H, n, _, _, kr => kr Γ H n
 | .loop b, Γ, H, n, kn, kx, kr => lp && match TL b with
   | some d => (match Γ.at d with | some (none, t) => decide (iT t = some .i64) | _ => false) &&
       iW P kd ev FT FA lp E nt lim b ((d, some (none, .cnt 0)) :: fD Γ) [] n (fun Γ' H' n' => Nat.beq n' n && (match Γ'.at d with | some (none, .xc 0) => true | _ => false) && fits kd (fD Γ) Γ' d) (fun i Γ' H' n' => kx i (fD Γ') [] n') (fun Γ' H' n' => kr (fD Γ') [] n') &&
       iW P kd ev FT FA lp E nt lim b ((d, some (none, .FN 0)) :: fD Γ) [] n (fun _ _ _ => false) (fun i Γ' H' n' => kx i (fD Γ') [] n') (fun Γ' H' n' => kr (fD Γ') [] n')
   | none => false
 | _, _, _, _, _, _, _ => false
theorem oZ {ev : Ev} {sh : Sh} {lp : Bool} (vU : ∀ y, (lp = true ∨ y = none) → ∀ f s, FT f = some s → au P f ∧ TC P kd (pR sh y) B G f s) (vS : ∀ y, (lp = true ∨ y = none) → ∀ f q, FA f = some q → au P f ∧ aV P kd (pR sh y) B G f q.1 q.2) (Qj : rf ev sh G) (hW : lp = true → ∃ W, sh.el 0 = .int .i64 W ∧ bB .i64 W) (hB : B ≤ w0.heap.size) (hm : P.follows .mixedOrders = true) (N0 : Nat) {lim : Nat} (hlim : N0 + lim ≤ 68719476736) :
   ∀ (c : Code) (cx : Cx) (hcx : ∃ y, (lp = true ∨ y = none) ∧ cx.sh = pR sh y) (hb : cx.base = w0.heap.size) (HG : ∀ w, Eff (dC B kd cx E) w0 w → G w) (Γ : Gm) (H : Hm) (n : Nat) (kn : Gm → Hm → Nat → Bool) (kx : Nat → Gm → Hm → Nat → Bool) (kr : Gm → Hm → Nat → Bool) (Q : Exit → Act → World → Prop) (a : Act) (w : World), iW P kd ev FT FA lp E nt lim c Γ H n kn kx kr = true → dB kd cx E B w0 nt (N0 + n) H Γ.at a w → Plain Γ →
     (∀ Γ H n a w, kn Γ H n = true → dB kd cx E B w0 nt (N0 + n) H Γ.at a w → Plain Γ → Q .normal a w) →
     (∀ i Γ H n a w, kx i Γ H n = true → dB kd cx E B w0 nt (N0 + n) H Γ.at a w → Plain Γ → Q (.exit i) a w) →
     (∀ Γ H n a w, kr Γ H n = true → dB kd cx E B w0 nt (N0 + n) H Γ.at a w → Plain Γ → Q .ret a w) → c.wp P Q a w := by
 intro c
 induction c with
 | skip => intro cx hcx hb HG Γ H n kn kx kr Q a w h hs hp h1 h2 h3; exact wp_skip (h1 Γ H n a w h hs hp)
 | region id ops draw =>
   intro cx hcx hb HG Γ H n kn kx kr Q a w h hs hp h1 h2 h3
   obtain ⟨ops⟩ := ops
   obtain ⟨y, hy, hsh⟩ := hcx
   have gH : ∀ f s, FT f = some s → au P f ∧ TC P kd cx.sh B G f s := by rw [hsh]; exact vU y hy
   have qU : ∀ f q, FA f = some q → au P f ∧ aV P kd cx.sh B G f q.1 q.2 := by rw [hsh]; exact vS y hy
   have hev : rA ev cx G := by
     show rf ev cx.sh G
     rw [hsh]
     cases y with
     | none => exact Qj
     | some x => exact Qj
   cases draw with
   | true =>
     simp only [iW, vo, vH] at h
     split at h
     · rename_i Γ' H' m hr
       split at hr
       · rename_i hd
         cases hr
         simp only [Bool.and_eq_true] at hd
         have hle := Nat.le_of_ble_eq_true hd.2
         exact uE gH hev hb hB HG hm (by omega) hd.1 (Ae hs) hp fun a w hs' hp' => h1 _ _ _ a w h (by rw [← Nat.add_assoc]; exact hs') hp'
       · cases hr
     · cases h
   | false =>
     simp only [iW] at h
     refine wp_region_lit (pO gH qU hev hb hB HG hlim (k := fun Γ' gs' H' n' => kn (sU Γ' gs') H' n') (fun Γ' gs' H' n' a w hk hs' hg' => ?_) ops Γ [] H n a w h hs (fun t e he q hq => by rw [hp t e he] at hq; cases hq))
     obtain ⟨e1, e2⟩ := vE hs' hg'
     exact h1 _ _ n' a w hk e1 e2
 | seq x y tJ uh =>
   intro cx hcx hb HG Γ H n kn kx kr Q a w h hs hp h1 h2 h3
   simp only [iW] at h
   exact wp_seq (tJ cx hcx hb HG Γ H n _ kx kr _ a w h hs hp (fun Γ H n a w hk hs hp => uh cx hcx hb HG Γ H n kn kx kr Q a w hk hs hp h1 h2 h3) h2 h3)
 | cond c x y tJ uh =>
   intro cx hcx hb HG Γ H n kn kx kr Q a w h hs hp h1 h2 h3
   simp only [iW] at h
   split at h
   · rename_i g1
     have hbv : a.eval c = .bool true := iF (K := []) hs.lk (by simp) g1
     exact wp_cond_true hbv (tJ cx hcx hb HG Γ H n kn kx kr Q a w h hs hp h1 h2 h3)
   · rename_i g1
     have hbv : a.eval c = .bool false := iF (K := []) hs.lk (by simp) g1
     exact wp_cond_false hbv (uh cx hcx hb HG Γ H n kn kx kr Q a w h hs hp h1 h2 h3)
   · rename_i g1
     simp only [Bool.and_eq_true] at h
     obtain ⟨b, hbv⟩ := iF (K := []) hs.lk (by simp) g1
     cases b with
     | true => exact wp_cond_true hbv (tJ cx hcx hb HG Γ H n kn kx kr Q a w h.1 hs hp h1 h2 h3)
     | false => exact wp_cond_false hbv (uh cx hcx hb HG Γ H n kn kx kr Q a w h.2 hs hp h1 h2 h3)
   · cases h
 | block id b ih =>
   intro cx hcx hb HG Γ H n kn kx kr Q a w h hs hp h1 h2 h3
   simp only [iW] at h
   refine wp_block (ih cx hcx hb HG Γ H n kn _ kr _ a w h hs hp h1 (fun i Γ H n a w hk hs hp => ?_) h3)
   simp only [Exit.inBlock]
   split at hk
   · rename_i e
     rw [if_pos e]
     exact h1 Γ H n a w hk hs hp
   · rename_i e
     rw [if_neg e]
     exact h2 i Γ H n a w hk hs hp
 | loop b ih =>
   intro cx hcx hb HG Γ H n kn kx kr Q a w h hs hp h1 h2 h3
   simp only [iW, Bool.and_eq_true] at h
   obtain ⟨hlp, h⟩ := h
   split at h
   · rename_i d hd
     simp only [Bool.and_eq_true] at h
     obtain ⟨⟨ht, hc1⟩, hc2⟩ := h
     obtain ⟨y, hy, hsh⟩ := hcx
     obtain ⟨W, hW1, hW2⟩ := hW hlp
     have hel : cx.el 0 = .int .i64 W := by
       have : cx.sh.el = sh.el := by rw [hsh]; cases y <;> rfl
       show cx.sh.el 0 = _
       rw [this]; exact hW1
     split at ht
     · rename_i t0 hΓd
       have hk0 : iT t0 = some .i64 := of_decide_eq_true ht
       have hwd : ∀ e, (fD Γ).at d = some e → e.2 = .v (.c (.int .i64)) := fun e he => by
         rw [qB, hΓd] at he
         simp only [uj, hk0] at he
         cases he; rfl
       obtain ⟨x0, hx0, hi0⟩ := iX hk0 (hs.lk d _ hΓd)
       refine wp_loop (fun a w => ∃ x, slot a d = .int .i64 x ∧ bB .i64 x ∧ dB kd cx E B w0 nt (N0 + n) [] (fD Γ).at a w) (fun a w => (W - qW (slot a d)).toNat) ⟨x0, hx0, hi0, lV hs⟩ ?_
       rintro a w ⟨x, hx, hi, hst⟩
       have LG : ∃ y, (lp = true ∨ y = none) ∧ (rJ cx x).sh = pR sh y := ⟨some x, .inl hlp, by
         rw [← TR sh y x, ← hsh]; rfl⟩
       have YR : (rJ cx x).vals 8 = .int .i64 x := by simp [rJ]
       by_cases hlt : x < W
       · refine ih (rJ cx x) LG hb HG _ [] n _ _ _ _ a w hc1 (Ak (jF.2 hst) ⟨x, W, hx, by rw [YR, hx], hel, hlt, hi, hW2⟩) (pW (fE Γ)) ?_ ?_ ?_
         · intro Γ' H' n' a' w' hk hs' hp'
           simp only [Bool.and_eq_true] at hk
           obtain ⟨⟨k1, k2⟩, k3⟩ := hk
           have := Nat.eq_of_beq_eq_true k1
           subst this
           split at k2
           · rename_i hΓ'
             obtain ⟨x', W', e1, e2, e3, e4, e5, e6⟩ := hs'.lk d _ hΓ'
             rw [YR] at e2
             cases e2
             have hin := xX e4 e5 e6
             refine ⟨⟨x + 1, e1, hin, jF.1 (Ua (by show B ≤ cx.base; omega) hs' k3 fun e he => ?_)⟩, ?_⟩
             · rw [hwd e he]; exact ⟨_, e1, hin⟩
             · show (W - qW (slot a' d)).toNat < (W - qW (slot a d)).toNat
               have e7 : slot a' d = .int .i64 (x + 1) := e1
               rw [e7, hx]
               simp only [qW]
               omega
           · cases k2
         · intro i Γ' H' n' a' w' hk hs' hp'
           exact h2 i _ _ _ a' w' hk (jF.1 (lV hs')) (fE _)
         · intro Γ' H' n' a' w' hk hs' hp'
           exact h3 _ _ _ a' w' hk (jF.1 (lV hs')) (fE _)
       · refine ih (rJ cx x) LG hb HG _ [] n _ _ _ _ a w hc2 (Ak (jF.2 hst) ⟨x, W, hx, hel, hlt, hi⟩) (pW (fE Γ)) ?_ ?_ ?_
         · intro Γ' H' n' a' w' hk; cases hk
         · intro i Γ' H' n' a' w' hk hs' hp'
           exact h2 i _ _ _ a' w' hk (jF.1 (lV hs')) (fE _)
         · intro Γ' H' n' a' w' hk hs' hp'
           exact h3 _ _ _ a' w' hk (jF.1 (lV hs')) (fE _)
     · cases ht
   · cases h
 | rangeFunc f p s b ih1 ih2 => intro cx hcx hb HG Γ H n kn kx kr Q a w h; simp [iW] at h
 | exit id => intro cx hcx hb HG Γ H n kn kx kr Q a w h hs hp h1 h2 h3; exact wp_exit (h2 id Γ H n a w h hs hp)
 | scope b ih =>
   intro cx hcx hb HG Γ H n kn kx kr Q a w h hs hp h1 h2 h3
   simp only [iW] at h
   exact wp_scope_straight (ih cx hcx hb HG Γ H n kn kx kr _ a w h hs hp h1 h2 h3)
 | label l => intro cx hcx hb HG Γ H n kn kx kr Q a w h; simp [iW] at h
 | goto l => intro cx hcx hb HG Γ H n kn kx kr Q a w h; simp [iW] at h
 | ret => intro cx hcx hb HG Γ H n kn kx kr Q a w h hs hp h1 h2 h3; exact wp_ret (h3 Γ H n a w h hs hp)
 | refuse s => intro cx hcx hb HG Γ H n kn kx kr Q a w h; simp [iW] at h
end Go.Proofs.YtncnepmgmphanaaGreatDoor
