/- A checker of the types of a function's code, ninth part: calls with more than one way out. Plain; no condition. -/
import Derived.Test.YtncnepmgmphanaaGreatDoorMg05
set_option linter.unusedVariables false
set_option linter.unusedSimpArgs false
set_option linter.unusedSectionVars false
namespace Go.Proofs.YtncnepmgmphanaaGreatDoor
open Go.RowKit
variable {P : Program} {kd : Kd} {cx : Cx} {w w' w0 : World} {B N N' : Nat} {E : List EI} {FT : FuncId → Option FSig} {FA : FuncId → Option (FSig × List (AT × Hm))} {od : Od} {G : World → Prop} {a : Act} {nt : Nat}
def freeAT2 : AT → Bool
  | .own _ _ => true
  | .ownp _ _ => true
  | t => freeAT t
theorem freeAT2_ok {t : AT} {v : Value} {cx' : Cx} (hsh : cx'.sh = cx.sh) (hb : cx.base ≤ cx'.base) (h : freeAT2 t = true) (hv : ATok kd cx' w B N t v) : ATok kd cx w B N t v := by
  unfold freeAT2 at h
  split at h
  · exact CellOK.lower (show CellOK w cx'.base N _ v from hv) hb
  · exact ⟨CellOK.lower (show CellOK w cx'.base N _ v from hv.1) hb, hv.2⟩
  · exact freeAT_ok hsh h hv
def postToA (od : Od) (post : Hm) (ps : List AT) (args : Array Operand) (e : (Nat × Nat × Nat) × AT) : Option ((Nat × Nat × Nat) × AT) :=
  match ps[e.1.1]?, args[e.1.1]? with
  | some (.ptr T _ _), some x => match od [] x with
    | some (.ptr T' _ (.par m)) => if decide (T = T') && decide (e.1.2.1 = T) && freeAT2 e.2 && decide (post.at (e.1.1, e.1.2.1, e.1.2.2) = some e.2) then some ((m, T, e.1.2.2), e.2) else none
    | _ => none
  | _, _ => none
theorem op_callA {H : Hm} {a : Act} {f : FuncId} {args : Array Operand} {tys : Array TypeId} {dst : Option Nat} {ty : TypeId} {pos : String} {after : Array Edge} {guard : Option (Nat × Bool)} {s : FSig} {alts : List (AT × Hm)} (hc : (argsOK kd od s.ps args && s.eff.all (effMap kd od s.ps args) && (s.eff.flatMap (effTo od args)).all (inE kd E) && alts.all (fun q => freeAT q.1) && s.pre.all (preOK kd od H s.ps args)) = true) (HC : Callable P f) (hT : TCa P kd cx.sh B G f s alts) (hH : HOK kd cx w B N H)
    (hod0 : ∀ x t, od [] x = some t → ATok kd cx w B N t (a.eval x))
    (hw : WT kd.sig B N w) (he' : Eff (ChOf B kd cx E) w0 w) (hb : cx.base ≤ w.heap.size) (hBb : B ≤ cx.base) (hG : G w) (hlim : N + s.inc ≤ 68719476736) :
    (s.eff.flatMap (effTo od args)).all (inE kd E) = true ∧ OutOK P a ⟨dst, .call ⟨.value (.func f), args, tys⟩, ty, pos, after, guard⟩ w (fun v w' => ∃ q ∈ alts, Left kd cx E (s.eff.flatMap (effTo od args)) B w0 w (some q.1) (N + s.inc) v w' ∧ ∀ e ∈ q.2.filterMap (postToA od q.2 s.ps args), HEnt kd cx w' B (N + s.inc) e) := by
  have hB : B ≤ w.heap.size := Nat.le_trans hBb hb
  simp only [Bool.and_eq_true] at hc
  obtain ⟨⟨⟨⟨hc1, hc2⟩, hcD⟩, hc3⟩, hc4⟩ := hc
  refine ⟨hcD, ?_⟩
  obtain ⟨fn, hfn, hname, hbody⟩ := HC
  simp only [argsOK, Bool.and_eq_true, decide_eq_true_eq, List.all_eq_true, List.mem_range] at hc1
  have hsh : (cxOf kd cx.sh s (args.map a.eval) w).sh = cx.sh := rfl
  have hps : ∀ (i : Nat) (t : AT), s.ps[i]? = some t → ∃ v, (args.map a.eval)[i]? = some v ∧ ATok kd (cxOf kd cx.sh s (args.map a.eval) w) w B N t v := fun i t ht => by
    have hil := (List.getElem?_eq_some_iff.1 ht).1
    have hx := hc1.2 i hil
    rw [ht] at hx
    split at hx
    · rename_i f' x h1 h2
      cases h1
      split at hx
      · rename_i u hu
        have hv := hod0 x u hu
        refine ⟨a.eval x, by rw [Array.getElem?_map, h2]; rfl, ?_⟩
        unfold argOK at hx
        split at hx
        · rename_i T o j
          simp only [Bool.and_eq_true, decide_eq_true_eq] at hx
          obtain ⟨rfl, hx⟩ := hx
          split at hx
          · rename_i T' o' g
            simp only [Bool.and_eq_true, decide_eq_true_eq] at hx
            obtain ⟨rfl, rfl⟩ := hx
            obtain ⟨b, r, e, h5, h6, h7⟩ := hv
            refine ⟨b, r, e, h5, h6, ?_⟩
            refine ⟨?_, by obtain ⟨c', -, hcb, -⟩ := h6; exact lt_of_blk hcb⟩
            simp only [cxOf, psOf, ht, Array.getElem?_map, h2, Option.map_some, e]
            rw [row_div h5]
          · cases hx
        · rename_i T o
          split at hx
          · rename_i T' o'
            simp only [Bool.and_eq_true, decide_eq_true_eq] at hx
            obtain ⟨rfl, rfl⟩ := hx
            exact hv
          · cases hx
        · rename_i k
          split at hx
          · simp only [decide_eq_true_eq] at hx
            subst hx
            exact hv
          · simp only [Bool.and_eq_true, decide_eq_true_eq] at hx
            obtain ⟨⟨rfl, h6⟩, h7⟩ := hx
            exact ⟨_, hv.1, hv.2, h6, h7⟩
          · cases hx
        · rename_i o
          simp only [decide_eq_true_eq] at hx
          subst hx
          exact hv
        · rename_i k n
          simp only [decide_eq_true_eq] at hx
          subst hx
          exact hv
        · rename_i k n
          simp only [decide_eq_true_eq] at hx
          subst hx
          exact hv
        · rename_i k
          exact toSub_ok hBb hx hv
        · cases hx
      · cases hx
    · cases hx
  have hpre : HOK kd (cxOf kd cx.sh s (args.map a.eval) w) w B N s.pre := fun i T o t ht => by
    rw [List.all_eq_true] at hc4
    have hx := hc4 _ (Hm.at_mem ht)
    simp only [preOK] at hx
    split at hx
    · rename_i T1 o1 g1 x h1 h2
      split at hx
      · rename_i T2 o2 m h3
        simp only [Bool.and_eq_true, decide_eq_true_eq] at hx
        obtain ⟨⟨⟨rfl, rfl⟩, hfree⟩, hx⟩ := hx
        split at hx
        · rename_i t' ht'
          obtain ⟨k1, k2, k3, v, k4, k5⟩ := hH m T o t' ht'
          obtain ⟨b, r, e, h5, h6, h7⟩ := hod0 x _ h3
          simp only [OrgOK] at h7
          have hpi : (cxOf kd cx.sh s (args.map a.eval) w).ps i = cx.ps m := by
            rw [h7.1]
            simp only [cxOf, psOf, h1, Array.getElem?_map, h2, Option.map_some, e]
            rw [row_div h5]
          rw [hpi]
          exact ⟨Nat.lt_of_lt_of_le k1 hb, k2, k3, v, k4, freeAT_ok hsh.symm hfree (subK_ok hBb hx k5)⟩
        · cases hx
      · cases hx
    · cases hx
  refine .inr (.inr ⟨f, args.map a.eval, w, ?_, (hT N w (args.map a.eval) (by simpa using hc1.1) hB hlim hw hG hps hpre).mono ?_⟩)
  · simp [execOp, resolve, Act.eval, Deferred.ofValue, invoke, run_callFunc_enter hfn hname hbody]
  · rintro e w' ⟨v, rfl, g1, g2, q, hq, g3, g5⟩
    have g4 : Eff (ChOf B kd cx (s.eff.flatMap (effTo od args))) w w' := g2.monoT fun k c T f j hk hj => callee_ch hps hod0 hc2 hk hj
    refine ⟨v, rfl, q, hq, ⟨g1, he'.trans (g4.mono fun k T j _ hcc => ChOf_le hcD hcc), g4, fun t e => ?_⟩, fun e he => ?_⟩
    · cases e
      exact freeAT_ok hsh (List.all_eq_true.1 hc3 q hq) g3
    · simp only [List.mem_filterMap] at he
      obtain ⟨⟨⟨i, U, o⟩, t⟩, hm, hx⟩ := he
      unfold postToA at hx
      split at hx
      · rename_i T1 o1 g1' x h1 h2
        split at hx
        · rename_i T2 o2 m h3
          split at hx
          · rename_i hcc
            cases hx
            simp only [Bool.and_eq_true, decide_eq_true_eq] at hcc
            obtain ⟨⟨⟨rfl, rfl⟩, hfree⟩, hat⟩ := hcc
            obtain ⟨k1, k2, k3, v', k4, k5⟩ := g5 i _ o t hat
            obtain ⟨b, r, e, h5, h6, h7⟩ := hod0 x _ h3
            simp only [OrgOK] at h7
            have hpi : (cxOf kd cx.sh s (args.map a.eval) w).ps i = cx.ps m := by
              rw [h7.1]
              simp only [cxOf, psOf, h1, Array.getElem?_map, h2, Option.map_some, e]
              rw [row_div h5]
            rw [hpi] at k3 k4
            exact ⟨by rw [h7.1]; exact h7.2, k2, k3, v', k4, freeAT2_ok hsh hb hfree k5⟩
          · cases hx
        · cases hx
      · cases hx
def callOf : Op → Option (FuncId × Array Operand)
  | .call ⟨.value (.func f), args, _⟩ => some (f, args)
  | _ => none
def altOf (FA : FuncId → Option (FSig × List (AT × Hm))) (o : Oper) : Option (Nat × Bool) → Option (Array Operand × FSig × List (AT × Hm))
  | some _ => none
  | none => (callOf o.op).bind fun c => (FA c.1).map fun q => (c.2, q)
def seqK (P : Program) (kd : Kd) (ev : Ev) (FT : FuncId → Option FSig) (FA : FuncId → Option (FSig × List (AT × Hm))) (E : List EI) (nt lim : Nat) (ops : List Oper) : List Oper → Gm → List Nat → Hm → Nat → (Gm → List Nat → Hm → Nat → Bool) → Bool
  | [], Γ, gs, H, n, k => k Γ gs H n
  | o :: rest, Γ, gs, H, n, k => match guardSlot ops o with
    | none => false
    | some g => match altOf FA o g with
      | some (args, s, alts) => (argsOK kd (odOf Γ.at []) s.ps args && s.eff.all (effMap kd (odOf Γ.at []) s.ps args) && (s.eff.flatMap (effTo (odOf Γ.at []) args)).all (inE kd E) && alts.all (fun q => freeAT q.1) && s.pre.all (preOK kd (odOf Γ.at []) H s.ps args)) && Nat.ble (n + s.inc) lim &&
          alts.all fun q => match putG nt Γ gs o.dst none (some q.1) with
            | some (Γ', gs') => seqK P kd ev FT FA E nt lim ops rest Γ' gs' (q.2.filterMap (postToA (odOf Γ.at []) q.2 s.ps args) ++ H.cut (s.eff.flatMap (effTo (odOf Γ.at []) args))) (n + s.inc) k
            | none => false
      | none => match opTy P kd ev FT E H (odOf Γ.at (guardK Γ.at g)) o.op with
        | none => false
        | some (r, inc, D) => match putG nt Γ gs o.dst g r with
          | none => false
          | some (Γ', gs') => Nat.ble (n + inc) lim && seqK P kd ev FT FA E nt lim ops rest Γ' gs' (consU g (updsOf kd FT (odOf Γ.at (guardK Γ.at g)) o.op) (H.cut D)) (n + inc) k
theorem seqK_sound {N0 lim : Nat} {ev : Ev} (HFT : ∀ f s, FT f = some s → Callable P f ∧ TC P kd cx.sh B G f s) (HFA : ∀ f q, FA f = some q → Callable P f ∧ TCa P kd cx.sh B G f q.1 q.2) (hev : EvOK ev cx G) (hb : cx.base = w0.heap.size) (hB : B ≤ w0.heap.size) (HG : ∀ w, Eff (ChOf B kd cx E) w0 w → G w) (hlim : N0 + lim ≤ 68719476736) {ops : List Oper} {Q : Exit → Act → World → Prop} {k : Gm → List Nat → Hm → Nat → Bool} (hQ : ∀ Γ gs H n a w, k Γ gs H n = true → StOK kd cx E B w0 nt (N0 + n) H Γ.at a w → Guards Γ gs → Q .normal a w) :
    ∀ (rest : List Oper) (Γ : Gm) (gs : List Nat) (H : Hm) (n : Nat) (a : Act) (w : World), seqK P kd ev FT FA E nt lim ops rest Γ gs H n k = true → StOK kd cx E B w0 nt (N0 + n) H Γ.at a w → Guards Γ gs → wpList P ops.toArray Q rest a w
  | [], Γ, gs, H, n, a, w, h, hs, hg => wpList_nil (hQ Γ gs H n a w h hs hg)
  | o :: rest, Γ, gs, H, n, a, w, h, hs, hgs => by
    have hsz := hs.eff.size
    simp only [seqK] at h
    split at h
    · cases h
    · rename_i g hg
      split at h
      · rename_i args s alts hcall
        obtain rfl : g = none := by cases g with
          | none => rfl
          | some q => cases hcall
        simp only [altOf] at hcall
        cases hco : callOf o.op with
        | none => rw [hco] at hcall; cases hcall
        | some c =>
          rw [hco] at hcall
          simp only [Option.bind_some, Option.map_eq_some_iff] at hcall
          obtain ⟨q0, hfa, hq0⟩ := hcall
          obtain ⟨f, args'⟩ := c
          cases hq0
          obtain ⟨HC, HT⟩ := HFA f _ hfa
          simp only [Bool.and_eq_true] at h
          obtain ⟨⟨hc, hle⟩, hall⟩ := h
          have hle' := Nat.le_of_ble_eq_true hle
          obtain ⟨dst, op, ty, pos, after, guard⟩ := o
          simp only at hco hall
          unfold callOf at hco
          split at hco
          · rename_i f' args' tys
            cases hco
            refine wpList_step fun K hK => ?_
            have hg1 : ∀ q, (none : Option (Nat × Bool)) = some q → slot a q.1 = .bool q.2 := fun q e => by cases e
            rw [if_pos ((wanted_iff hg).2 hg1)]
            obtain ⟨hD, hout⟩ := op_callA (dst := dst) (ty := ty) (pos := pos) (after := after) (guard := guard) (tys := tys) (by simpa only [Bool.and_eq_true] using hc) HC HT hs.hm (fun x t hx => od_ok hs.lk (by simp) [] x t hx (by simp)) hs.wt hs.eff (by omega) (by omega) (HG w hs.eff) (by show N0 + n + s.inc ≤ _; omega)
            refine hout.wp fun v w' hl => hK _ _ ?_
            obtain ⟨q, hq, ⟨l1, l2, l3, l4⟩, l5⟩ := hl
            have hx := List.all_eq_true.1 hall q hq
            split at hx
            · rename_i Γ1 gs1 hp
              have hH2 := (hs.hm.cut hD l3 (Nat.le_add_right _ s.inc)).append l5
              obtain ⟨p1, p2⟩ := put_ok hs hgs hp l1 l2 l3 (Nat.le_add_right _ _) hH2 (fun _ => l4) (fun hn => absurd hg1 hn)
              exact seqK_sound HFT HFA hev hb hB HG hlim hQ rest Γ1 gs1 _ (n + s.inc) _ w' hx (by rw [← Nat.add_assoc]; exact p1) p2
            · cases hx
          · cases hco
      · split at h
        · cases h
        · rename_i r inc D ho
          split at h
          · cases h
          · rename_i Γ1 gs1 hp
            simp only [Bool.and_eq_true] at h
            obtain ⟨hle, h⟩ := h
            have hle' := Nat.le_of_ble_eq_true hle
            refine wpList_step fun K hK => ?_
            split
            · rename_i hw
              have hg1 := (wanted_iff hg).1 hw
              obtain ⟨hD, hout⟩ := op_sound3 ho HFT hev hs.hm (fun K' x t hx hk => od_ok hs.lk (guardK_ok hs.lk hg1) K' x t hx hk) hs.wt hs.eff (by omega) (by omega) (HG w hs.eff) (by omega)
              refine hout.wp fun v w' hl => hK _ _ ?_
              obtain ⟨⟨l1, l2, l3, l4⟩, l5⟩ := hl
              have hH1 : HOK kd cx w' B (N0 + n + inc) (H.cut D) := hs.hm.cut hD l3 (Nat.le_add_right _ _)
              have hH2 : HOK kd cx w' B (N0 + n + inc) (consU g (updsOf kd FT (odOf Γ.at (guardK Γ.at g)) o.op) (H.cut D)) := by
                unfold consU
                split
                · exact hH1.append l5
                · exact hH1
              obtain ⟨p1, p2⟩ := put_ok hs hgs hp l1 l2 l3 (Nat.le_add_right _ _) hH2 (fun _ => l4) (fun hn => absurd hg1 hn)
              exact seqK_sound HFT HFA hev hb hB HG hlim hQ rest Γ1 gs1 _ (n + inc) _ w' h (by rw [← Nat.add_assoc]; exact p1) p2
            · rename_i hw
              have hg1 := fun hh => hw ((wanted_iff hg).2 hh)
              have hgn : g ≠ none := fun e => hg1 (by subst e; simp)
              have hH2 : HOK kd cx w B (N0 + n + inc) (consU g (updsOf kd FT (odOf Γ.at (guardK Γ.at g)) o.op) (H.cut D)) := by
                have : consU g (updsOf kd FT (odOf Γ.at (guardK Γ.at g)) o.op) (H.cut D) = H.cut D := by
                  cases g with
                  | none => exact absurd rfl hgn
                  | some q => rfl
                rw [this]
                exact fun i T o t ht => by
                  obtain ⟨k1, k2, k3, v, k4, k5⟩ := hs.hm i T o t (Hm.cut_at ht).1
                  exact ⟨k1, k2, k3, v, k4, k5.mono (Eff.refl (fun _ _ _ => False) w) (Nat.le_add_right _ _)⟩
              obtain ⟨p1, p2⟩ := put_ok hs hgs hp (hs.wt.mono (Nat.le_add_right _ inc)) hs.eff (Eff.refl (fun _ _ _ => False) _) (Nat.le_add_right _ _) hH2 (fun hh => absurd hh hg1) (fun _ => rfl)
              exact hK _ _ (seqK_sound HFT HFA hev hb hB HG hlim hQ rest Γ1 gs1 _ (n + inc) _ w h (by rw [← Nat.add_assoc]; exact p1) p2)
def sh8 (sh : Sh) : Option Int → Sh
  | none => sh
  | some x => { sh with vals := fun j => if j = 8 then .int .i64 x else sh.vals j }
theorem sh8_sh8 (sh : Sh) (y : Option Int) (x : Int) : sh8 (sh8 sh y) (some x) = sh8 sh (some x) := by
  cases y with
  | none => rfl
  | some z =>
    simp only [sh8]
    congr 1
    funext j
    split <;> rfl
def cx8 (cx : Cx) (x : Int) : Cx := { cx with vals := fun j => if j = 8 then .int .i64 x else cx.vals j }
def weakE : Option Ent → Option Ent
  | some (none, t) => match intAT t with
    | some k => some (none, .v (.c (.int k)))
    | none => if boolAT t then some (none, .v (.c .bool)) else match t with
      | .val j => if Nat.beq j 8 then none else some (none, .val j)
      | .vsl j E s => if Nat.beq j 8 then none else some (none, .vsl j E s)
      | t => some (none, t)
  | _ => none
def weakG (Γ : Gm) : Gm := Γ.map fun p => (p.1, weakE p.2)
def fitsE (kd : Kd) : Option Ent → Option Ent → Bool
  | none, _ => true
  | some (none, u), some (none, t) => subAT kd t u
  | _, _ => false
def fits (kd : Kd) (ΓL Γ' : Gm) (d : Nat) : Bool := ΓL.all fun p => Nat.beq p.1 d || fitsE kd (ΓL.at p.1) (Γ'.at p.1)
def firstOp : Code → Option Oper
  | .region _ ops _ => ops.toList.head?
  | .seq a _ => firstOp a
  | .block _ b => firstOp b
  | .scope b => firstOp b
  | _ => none
def loopVar (b : Code) : Option Nat := match firstOp b with
  | some o => match o.op with
    | .move (.tmp d) => some d
    | _ => none
  | none => none
def no8 : AT → Bool
  | .cnt _ => false
  | .cns _ => false
  | .val j => !Nat.beq j 8
  | .vsl j _ _ => !Nat.beq j 8
  | .vln j => !Nat.beq j 8
  | .vlm j => !Nat.beq j 8
  | _ => true
theorem no8_iff {t : AT} {v : Value} {x : Int} (h : no8 t = true) : ATok kd (cx8 cx x) w B N t v ↔ ATok kd cx w B N t v := by
  cases t with
  | cnt o => cases h
  | cns o => cases h
  | val j =>
    have : ¬ j = 8 := fun e => by subst e; simp [no8] at h
    simp only [ATok, cx8, if_neg this]
  | vsl j E s =>
    have : ¬ j = 8 := fun e => by subst e; simp [no8] at h
    simp only [ATok, cx8, if_neg this]
  | vln j =>
    have : ¬ j = 8 := fun e => by subst e; simp [no8] at h
    simp only [ATok, cx8, if_neg this]
  | vlm j =>
    have : ¬ j = 8 := fun e => by subst e; simp [no8] at h
    simp only [ATok, cx8, if_neg this]
  | ptr T o g => cases g <;> exact Iff.rfl
  | _ => exact Iff.rfl
theorem weakE_none {e : Option Ent} {x : Ent} (h : weakE e = some x) : x.1 = none ∧ no8 x.2 = true := by
  unfold weakE at h
  split at h
  · rename_i t
    by_cases h8 : no8 t = true
    · split at h
      · cases h; exact ⟨rfl, rfl⟩
      · split at h
        · cases h; exact ⟨rfl, rfl⟩
        · split at h
          · split at h
            · cases h
            · cases h; exact ⟨rfl, h8⟩
          · split at h
            · cases h
            · cases h; exact ⟨rfl, h8⟩
          · cases h; exact ⟨rfl, h8⟩
    · cases t with
      | vln j => cases h; exact ⟨rfl, rfl⟩
      | vlm j => cases h; exact ⟨rfl, rfl⟩
      | vsl j E s =>
        cases hj : Nat.beq j 8 with
        | true =>
          simp only [intAT, boolAT, hj] at h
          cases h
        | false =>
          simp only [no8, hj] at h8
          exact absurd rfl h8
      | cnt o => cases h; exact ⟨rfl, rfl⟩
      | cns o => cases h; exact ⟨rfl, rfl⟩
      | val j =>
        cases hj : Nat.beq j 8 with
        | true =>
          simp only [intAT, boolAT, hj] at h
          cases h
        | false =>
          simp only [no8, hj] at h8
          exact absurd rfl h8
      | _ => exact absurd rfl h8
  · cases h
theorem weakE_ok {e : Option Ent} {x : Ent} {t : Nat} (h : weakE e = some x) (hs : ∀ y, e = some y → SlotOK kd cx a w B N y t) : ATok kd cx w B N x.2 (slot a t) := by
  unfold weakE at h
  split at h
  · rename_i u
    have hu : ATok kd cx w B N u (slot a t) := hs _ rfl
    split at h
    · rename_i k hk
      cases h
      exact intAT_ok hk hu
    · split at h
      · rename_i hb
        cases h
        exact boolAT_ok hb hu
      · split at h
        · split at h
          · cases h
          · cases h; exact hu
        · split at h
          · cases h
          · cases h; exact hu
        · cases h; exact hu
  · cases h
theorem weakG_at {t : Nat} : ∀ (Γ : Gm), Gm.at (weakG Γ) t = weakE (Γ.at t)
  | [] => rfl
  | (d, e) :: Γ => by
    have ih := weakG_at (t := t) Γ
    unfold weakG at ih ⊢
    simp only [List.map_cons, Gm.at_set]
    split
    · rfl
    · exact ih
theorem plain_weak (Γ : Gm) : Plain (weakG Γ) := fun t e he => by
  rw [weakG_at] at he
  exact (weakE_none he).1
theorem st_weak {Γ : Gm} {H : Hm} (h : StOK kd cx E B w0 nt N H Γ.at a w) : StOK kd cx E B w0 nt N [] (weakG Γ).at a w := by
  refine ⟨h.size, h.defers, h.wt, h.eff, fun t e he => ?_, fun i T o t ht => by cases ht⟩
  rw [weakG_at] at he
  have h1 := weakE_ok he (fun y hy => h.lk t y hy)
  obtain ⟨g, u⟩ := e
  cases (weakE_none he).1
  exact h1
theorem st_cx8 {Γ : Gm} {x : Int} : StOK kd (cx8 cx x) E B w0 nt N [] (weakG Γ).at a w ↔ StOK kd cx E B w0 nt N [] (weakG Γ).at a w := by
  constructor <;> refine fun h => ⟨h.size, h.defers, h.wt, h.eff, fun t e he => ?_, fun i T o t ht => by cases ht⟩ <;>
  · have h1 := h.lk t e he
    rw [weakG_at] at he
    obtain ⟨g, u⟩ := e
    have h2 := weakE_none he
    cases h2.1
    first
      | exact (no8_iff h2.2).1 h1
      | exact (no8_iff h2.2).2 h1
def intOf8 : Value → Int
  | .int _ n => n
  | _ => 0
theorem plain_cons {Γ : Gm} {d : Nat} {u : AT} (h : Plain Γ) : Plain ((d, some (none, u)) :: Γ) := fun t e he => by
  rw [Gm.at_set] at he
  split at he
  · cases he; rfl
  · exact h t e he
theorem st_cons {Γ : Gm} {d : Nat} {u : AT} (h : StOK kd cx E B w0 nt N [] Γ.at a w) (hd : ATok kd cx w B N u (slot a d)) : StOK kd cx E B w0 nt N [] (Gm.at ((d, some (none, u)) :: Γ)) a w := by
  refine ⟨h.size, h.defers, h.wt, h.eff, fun t e he => ?_, h.hm⟩
  rw [Gm.at_set] at he
  split at he
  · rename_i e'
    subst e'
    cases he
    exact hd
  · exact h.lk t e he
theorem Gm.mem_of_at : ∀ {Γ : Gm} {t : Nat} {e : Ent}, Γ.at t = some e → ∃ x, (t, x) ∈ Γ
  | [], t, e, h => by cases h
  | (d, x) :: Γ, t, e, h => by
    rw [Gm.at_set] at h
    split at h
    · rename_i e'
      subst e'
      exact ⟨x, by simp⟩
    · obtain ⟨y, hy⟩ := Gm.mem_of_at h
      exact ⟨y, List.mem_cons_of_mem _ hy⟩
theorem st_fits {Γ Γ' : Gm} {H : Hm} {d : Nat} (hBb : B ≤ cx.base) (h : StOK kd cx E B w0 nt N H Γ'.at a w) (hf : fits kd (weakG Γ) Γ' d = true) (hd : ∀ e, (weakG Γ).at d = some e → ATok kd cx w B N e.2 (slot a d)) : StOK kd cx E B w0 nt N [] (weakG Γ).at a w := by
  refine ⟨h.size, h.defers, h.wt, h.eff, fun t e he => ?_, fun i T o t ht => by cases ht⟩
  have hp := plain_weak Γ t e he
  obtain ⟨g, u⟩ := e
  cases hp
  by_cases htd : t = d
  · subst htd; exact hd _ he
  · obtain ⟨x, hx⟩ := Gm.mem_of_at he
    have h1 := List.all_eq_true.1 hf _ hx
    simp only [Bool.or_eq_true] at h1
    rcases h1 with h1 | h1
    · exact absurd (Nat.eq_of_beq_eq_true h1) htd
    · simp only [he] at h1
      unfold fitsE at h1
      split at h1
      · rename_i e1; cases e1
      · rename_i u' t' e1 e2
        cases e1
        exact subAT_ok hBb h1 (h.lk t _ e2)
      · cases h1
def chkA (P : Program) (kd : Kd) (ev : Ev) (FT : FuncId → Option FSig) (FA : FuncId → Option (FSig × List (AT × Hm))) (lp : Bool) (E : List EI) (nt lim : Nat) : Code → Gm → Hm → Nat → (Gm → Hm → Nat → Bool) → (Nat → Gm → Hm → Nat → Bool) → (Gm → Hm → Nat → Bool) → Bool
  | .skip, Γ, H, n, kn, _, _ => kn Γ H n
  | .region _ ops true, Γ, H, n, kn, _, _ => match drawn2 P kd ev FT E nt lim n ops.toList Γ (drawnH P kd ev FT E ops.toList Γ H) with
    | some (Γ', H', m) => kn Γ' H' (n + m)
    | none => false
  | .region _ ops false, Γ, H, n, kn, _, _ => seqK P kd ev FT FA E nt lim ops.toList ops.toList Γ [] H n fun Γ' gs' H' n' => kn (endP Γ' gs') H' n'
  | .seq a b, Γ, H, n, kn, kx, kr => chkA P kd ev FT FA lp E nt lim a Γ H n (fun Γ H n => chkA P kd ev FT FA lp E nt lim b Γ H n kn kx kr) kx kr
  | .cond c x y, Γ, H, n, kn, kx, kr => match opndOf Γ.at [] c with
    | some (.kb true) => chkA P kd ev FT FA lp E nt lim x Γ H n kn kx kr
    | some (.kb false) => chkA P kd ev FT FA lp E nt lim y Γ H n kn kx kr
    | some (.v (.c .bool)) => chkA P kd ev FT FA lp E nt lim x Γ H n kn kx kr && chkA P kd ev FT FA lp E nt lim y Γ H n kn kx kr
    | _ => false
  | .block id b, Γ, H, n, kn, kx, kr => chkA P kd ev FT FA lp E nt lim b Γ H n kn (fun i Γ H n => if i = id then kn Γ H n else kx i Γ H n) kr
  | .exit id, Γ, H, n, _, kx, _ => kx id Γ H n
  | .scope b, Γ, H, n, kn, kx, kr => chkA P kd ev FT FA lp E nt lim b Γ H n kn kx kr
  | .ret, Γ, H, n, _, _, kr => kr Γ H n
  | .loop b, Γ, H, n, kn, kx, kr => lp && match loopVar b with
    | some d => (match Γ.at d with | some (none, t) => decide (intAT t = some .i64) | _ => false) &&
        chkA P kd ev FT FA lp E nt lim b ((d, some (none, .cnt 0)) :: weakG Γ) [] n (fun Γ' H' n' => Nat.beq n' n && (match Γ'.at d with | some (none, .cns 0) => true | _ => false) && fits kd (weakG Γ) Γ' d) (fun i Γ' H' n' => kx i (weakG Γ') [] n') (fun Γ' H' n' => kr (weakG Γ') [] n') &&
        chkA P kd ev FT FA lp E nt lim b ((d, some (none, .cne 0)) :: weakG Γ) [] n (fun _ _ _ => false) (fun i Γ' H' n' => kx i (weakG Γ') [] n') (fun Γ' H' n' => kr (weakG Γ') [] n')
    | none => false
  | _, _, _, _, _, _, _ => false
theorem chkA_sound {ev : Ev} {sh : Sh} {lp : Bool} (HFTs : ∀ y, (lp = true ∨ y = none) → ∀ f s, FT f = some s → Callable P f ∧ TC P kd (sh8 sh y) B G f s) (HFAs : ∀ y, (lp = true ∨ y = none) → ∀ f q, FA f = some q → Callable P f ∧ TCa P kd (sh8 sh y) B G f q.1 q.2) (hevs : EvSh ev sh G) (hW : lp = true → ∃ W, sh.el 0 = .int .i64 W ∧ inK .i64 W) (hB : B ≤ w0.heap.size) (hm : P.follows .mixedOrders = true) (N0 : Nat) {lim : Nat} (hlim : N0 + lim ≤ 68719476736) :
    ∀ (c : Code) (cx : Cx) (hcx : ∃ y, (lp = true ∨ y = none) ∧ cx.sh = sh8 sh y) (hb : cx.base = w0.heap.size) (HG : ∀ w, Eff (ChOf B kd cx E) w0 w → G w) (Γ : Gm) (H : Hm) (n : Nat) (kn : Gm → Hm → Nat → Bool) (kx : Nat → Gm → Hm → Nat → Bool) (kr : Gm → Hm → Nat → Bool) (Q : Exit → Act → World → Prop) (a : Act) (w : World), chkA P kd ev FT FA lp E nt lim c Γ H n kn kx kr = true → StOK kd cx E B w0 nt (N0 + n) H Γ.at a w → Plain Γ →
      (∀ Γ H n a w, kn Γ H n = true → StOK kd cx E B w0 nt (N0 + n) H Γ.at a w → Plain Γ → Q .normal a w) →
      (∀ i Γ H n a w, kx i Γ H n = true → StOK kd cx E B w0 nt (N0 + n) H Γ.at a w → Plain Γ → Q (.exit i) a w) →
      (∀ Γ H n a w, kr Γ H n = true → StOK kd cx E B w0 nt (N0 + n) H Γ.at a w → Plain Γ → Q .ret a w) → c.wp P Q a w := by
  intro c
  induction c with
  | skip => intro cx hcx hb HG Γ H n kn kx kr Q a w h hs hp h1 h2 h3; exact wp_skip (h1 Γ H n a w h hs hp)
  | region id ops draw =>
    intro cx hcx hb HG Γ H n kn kx kr Q a w h hs hp h1 h2 h3
    obtain ⟨ops⟩ := ops
    obtain ⟨y, hy, hsh⟩ := hcx
    have HFT : ∀ f s, FT f = some s → Callable P f ∧ TC P kd cx.sh B G f s := by rw [hsh]; exact HFTs y hy
    have HFA : ∀ f q, FA f = some q → Callable P f ∧ TCa P kd cx.sh B G f q.1 q.2 := by rw [hsh]; exact HFAs y hy
    have hev : EvOK ev cx G := by
      show EvSh ev cx.sh G
      rw [hsh]
      cases y with
      | none => exact hevs
      | some x => exact hevs
    cases draw with
    | true =>
      simp only [chkA, drawn2, drawnRun] at h
      split at h
      · rename_i Γ' H' m hr
        split at hr
        · rename_i hd
          cases hr
          simp only [Bool.and_eq_true] at hd
          have hle := Nat.le_of_ble_eq_true hd.2
          exact drawn_sound HFT hev hb hB HG hm (by omega) hd.1 (drawnH_ok hs) hp fun a w hs' hp' => h1 _ _ _ a w h (by rw [← Nat.add_assoc]; exact hs') hp'
        · cases hr
      · cases h
    | false =>
      simp only [chkA] at h
      refine wp_region_lit (seqK_sound HFT HFA hev hb hB HG hlim (k := fun Γ' gs' H' n' => kn (endP Γ' gs') H' n') (fun Γ' gs' H' n' a w hk hs' hg' => ?_) ops Γ [] H n a w h hs (fun t e he q hq => by rw [hp t e he] at hq; cases hq))
      obtain ⟨e1, e2⟩ := endP_ok hs' hg'
      exact h1 _ _ n' a w hk e1 e2
  | seq x y ihx ihy =>
    intro cx hcx hb HG Γ H n kn kx kr Q a w h hs hp h1 h2 h3
    simp only [chkA] at h
    exact wp_seq (ihx cx hcx hb HG Γ H n _ kx kr _ a w h hs hp (fun Γ H n a w hk hs hp => ihy cx hcx hb HG Γ H n kn kx kr Q a w hk hs hp h1 h2 h3) h2 h3)
  | cond c x y ihx ihy =>
    intro cx hcx hb HG Γ H n kn kx kr Q a w h hs hp h1 h2 h3
    simp only [chkA] at h
    split at h
    · rename_i g1
      have hbv : a.eval c = .bool true := opnd_ok (K := []) hs.lk (by simp) g1
      exact wp_cond_true hbv (ihx cx hcx hb HG Γ H n kn kx kr Q a w h hs hp h1 h2 h3)
    · rename_i g1
      have hbv : a.eval c = .bool false := opnd_ok (K := []) hs.lk (by simp) g1
      exact wp_cond_false hbv (ihy cx hcx hb HG Γ H n kn kx kr Q a w h hs hp h1 h2 h3)
    · rename_i g1
      simp only [Bool.and_eq_true] at h
      obtain ⟨b, hbv⟩ := opnd_ok (K := []) hs.lk (by simp) g1
      cases b with
      | true => exact wp_cond_true hbv (ihx cx hcx hb HG Γ H n kn kx kr Q a w h.1 hs hp h1 h2 h3)
      | false => exact wp_cond_false hbv (ihy cx hcx hb HG Γ H n kn kx kr Q a w h.2 hs hp h1 h2 h3)
    · cases h
  | block id b ih =>
    intro cx hcx hb HG Γ H n kn kx kr Q a w h hs hp h1 h2 h3
    simp only [chkA] at h
    refine wp_block (ih cx hcx hb HG Γ H n kn _ kr _ a w h hs hp h1 (fun i Γ H n a w hk hs hp => ?_) h3)
    simp only [Exit.inBlock]
    split at hk
    · rename_i e
      rw [if_pos e]
      exact h1 Γ H n a w hk hs hp
    · rename_i e
      rw [if_neg e]
      exact h2 i Γ H n a w hk hs hp
  | loop b ih =>
    intro cx hcx hb HG Γ H n kn kx kr Q a w h hs hp h1 h2 h3
    simp only [chkA, Bool.and_eq_true] at h
    obtain ⟨hlp, h⟩ := h
    split at h
    · rename_i d hd
      simp only [Bool.and_eq_true] at h
      obtain ⟨⟨ht, hc1⟩, hc2⟩ := h
      obtain ⟨y, hy, hsh⟩ := hcx
      obtain ⟨W, hW1, hW2⟩ := hW hlp
      have hel : cx.el 0 = .int .i64 W := by
        have : cx.sh.el = sh.el := by rw [hsh]; cases y <;> rfl
        show cx.sh.el 0 = _
        rw [this]; exact hW1
      split at ht
      · rename_i t0 hΓd
        have hk0 : intAT t0 = some .i64 := of_decide_eq_true ht
        have hwd : ∀ e, (weakG Γ).at d = some e → e.2 = .v (.c (.int .i64)) := fun e he => by
          rw [weakG_at, hΓd] at he
          simp only [weakE, hk0] at he
          cases he; rfl
        obtain ⟨x0, hx0, hi0⟩ := intAT_ok hk0 (hs.lk d _ hΓd)
        refine wp_loop (fun a w => ∃ x, slot a d = .int .i64 x ∧ inK .i64 x ∧ StOK kd cx E B w0 nt (N0 + n) [] (weakG Γ).at a w) (fun a w => (W - intOf8 (slot a d)).toNat) ⟨x0, hx0, hi0, st_weak hs⟩ ?_
        rintro a w ⟨x, hx, hi, hst⟩
        have hcx' : ∃ y, (lp = true ∨ y = none) ∧ (cx8 cx x).sh = sh8 sh y := ⟨some x, .inl hlp, by
          rw [← sh8_sh8 sh y x, ← hsh]; rfl⟩
        have hx8 : (cx8 cx x).vals 8 = .int .i64 x := by simp [cx8]
        by_cases hlt : x < W
        · refine ih (cx8 cx x) hcx' hb HG _ [] n _ _ _ _ a w hc1 (st_cons (st_cx8.2 hst) ⟨x, W, hx, by rw [hx8, hx], hel, hlt, hi, hW2⟩) (plain_cons (plain_weak Γ)) ?_ ?_ ?_
          · intro Γ' H' n' a' w' hk hs' hp'
            simp only [Bool.and_eq_true] at hk
            obtain ⟨⟨k1, k2⟩, k3⟩ := hk
            have := Nat.eq_of_beq_eq_true k1
            subst this
            split at k2
            · rename_i hΓ'
              obtain ⟨x', W', e1, e2, e3, e4, e5, e6⟩ := hs'.lk d _ hΓ'
              rw [hx8] at e2
              cases e2
              have hin := cns_in e4 e5 e6
              refine ⟨⟨x + 1, e1, hin, st_cx8.1 (st_fits (by show B ≤ cx.base; omega) hs' k3 fun e he => ?_)⟩, ?_⟩
              · rw [hwd e he]; exact ⟨_, e1, hin⟩
              · show (W - intOf8 (slot a' d)).toNat < (W - intOf8 (slot a d)).toNat
                have e7 : slot a' d = .int .i64 (x + 1) := e1
                rw [e7, hx]
                simp only [intOf8]
                omega
            · cases k2
          · intro i Γ' H' n' a' w' hk hs' hp'
            exact h2 i _ _ _ a' w' hk (st_cx8.1 (st_weak hs')) (plain_weak _)
          · intro Γ' H' n' a' w' hk hs' hp'
            exact h3 _ _ _ a' w' hk (st_cx8.1 (st_weak hs')) (plain_weak _)
        · refine ih (cx8 cx x) hcx' hb HG _ [] n _ _ _ _ a w hc2 (st_cons (st_cx8.2 hst) ⟨x, W, hx, hel, hlt, hi⟩) (plain_cons (plain_weak Γ)) ?_ ?_ ?_
          · intro Γ' H' n' a' w' hk; cases hk
          · intro i Γ' H' n' a' w' hk hs' hp'
            exact h2 i _ _ _ a' w' hk (st_cx8.1 (st_weak hs')) (plain_weak _)
          · intro Γ' H' n' a' w' hk hs' hp'
            exact h3 _ _ _ a' w' hk (st_cx8.1 (st_weak hs')) (plain_weak _)
      · cases ht
    · cases h
  | rangeFunc f p s b ih1 ih2 => intro cx hcx hb HG Γ H n kn kx kr Q a w h; simp [chkA] at h
  | exit id => intro cx hcx hb HG Γ H n kn kx kr Q a w h hs hp h1 h2 h3; exact wp_exit (h2 id Γ H n a w h hs hp)
  | scope b ih =>
    intro cx hcx hb HG Γ H n kn kx kr Q a w h hs hp h1 h2 h3
    simp only [chkA] at h
    exact wp_scope_straight (ih cx hcx hb HG Γ H n kn kx kr _ a w h hs hp h1 h2 h3)
  | label l => intro cx hcx hb HG Γ H n kn kx kr Q a w h; simp [chkA] at h
  | goto l => intro cx hcx hb HG Γ H n kn kx kr Q a w h; simp [chkA] at h
  | ret => intro cx hcx hb HG Γ H n kn kx kr Q a w h hs hp h1 h2 h3; exact wp_ret (h3 Γ H n a w h hs hp)
  | refuse s => intro cx hcx hb HG Γ H n kn kx kr Q a w h; simp [chkA] at h
end Go.Proofs.YtncnepmgmphanaaGreatDoor
