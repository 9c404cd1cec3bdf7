/- A checker of the types of a function's code, fifth part: slots, and a plain list of operations. Plain; no condition. -/
import Derived.Test.YtncnepmgmphanaaGreatDoorTcD
import Derived.Tactics
set_option linter.unusedVariables false
set_option linter.unusedSimpArgs false
set_option linter.unusedSectionVars false
namespace Go.Proofs.YtncnepmgmphanaaGreatDoor
open Go.RowKit
abbrev kW := Option (Nat × Bool) × AT
abbrev Lk := Nat → Option kW
abbrev Gm := List (Nat × Option kW)
def Gm.at : Gm → Nat → Option kW
 | [], _ => none
 | (d, e) :: Γ, t => cond (Nat.beq d t) e (Gm.at Γ t)
def vC (lk : Lk) : Nat → Nat × Bool → List (Nat × Bool)
 | 0, q => [q]
 | n + 1, q => q :: (match lk q.1 with
   | some (some p, _) => vC lk n p
   | _ => [])
def mE (lk : Lk) (K : List (Nat × Bool)) : Operand → Option AT
 | .tmp t => match lk t with
   | some (none, a) => some a
   | some (some q, a) => if K.contains q then some a else none
   | none => none
 | .const (.int k n) => if k.min ≤ n ∧ n ≤ k.max then some (.aN k n) else none
 | .const (.bool b) => some (.kb b)
 | _ => none
def fO (lk : Lk) (K : List (Nat × Bool)) : Od := fun K' x => mE lk (K'.flatMap (vC lk 4) ++ K) x
def ji (ops : List Oper) (o : Oper) : Option (Option (Nat × Bool)) :=
 match o.guard with
 | none => some none
 | some (j, b) => match (ops[j]?).bind (·.dst) with
   | some d => some (some (d, b))
   | none => none
def gI (lk : Lk) : Option (Nat × Bool) → List (Nat × Bool)
 | none => []
 | some q => vC lk 4 q
variable {P : Program} {kd : Kd} {cx : Cx} {w w' w0 : World} {B N N' : Nat} {E : List EI} {FT : FuncId → Option aj} {G : World → Prop} {a : Act} {nt : Nat}
def slot (a : Act) (t : Nat) : Value := a.tmps.getD t undef
def fq (kd : Kd) (cx : Cx) (a : Act) (w : World) (B N : Nat) (e : kW) (t : Nat) : Prop :=
 match e.1 with
 | none => bD kd cx w B N e.2 (slot a t)
 | some q => (slot a q.1 = .bool q.2 → bD kd cx w B N e.2 (slot a t)) ∧ (slot a q.1 ≠ .bool q.2 → slot a t = undef)
def wE (kd : Kd) (cx : Cx) (a : Act) (w : World) (B N : Nat) (lk : Lk) : Prop := ∀ t e, lk t = some e → fq kd cx a w B N e t
theorem Gv (b : Bool) : undef ≠ .bool b := by intro h; cases h
theorem zV {lk : Lk} (h : wE kd cx a w B N lk) : ∀ (n : Nat) (q : Nat × Bool), slot a q.1 = .bool q.2 → ∀ p ∈ vC lk n q, slot a p.1 = .bool p.2
 | 0, q, hq, p, hp => by simp [vC] at hp; subst hp; exact hq
 | n + 1, q, hq, p, hp => by
   simp only [vC, List.mem_cons] at hp
   rcases hp with rfl | hp
   · exact hq
   · split at hp
     · rename_i p' x he
       have hs := h _ _ he
       simp only [fq] at hs
       refine zV h n p' ?_ p hp
       by_cases hc : slot a p'.1 = .bool p'.2
       · exact hc
       · rw [hs.2 hc] at hq
         exact absurd hq (Gv _)
     · cases hp
theorem iF {lk : Lk} {K : List (Nat × Bool)} (h : wE kd cx a w B N lk) (hK : ∀ q ∈ K, slot a q.1 = .bool q.2) {x : Operand} {t : AT} (hx : mE lk K x = some t) : bD kd cx w B N t (a.eval x) := by
 cases x with
 | tmp s =>
   simp only [mE] at hx
   split at hx
   · rename_i u he
     cases hx
     exact h _ _ he
   · rename_i q u he
     split at hx
     · rename_i hc
       cases hx
       exact (h _ _ he).1 (hK q (by simpa using hc))
     · cases hx
   · cases hx
 | const v =>
   cases v <;> simp only [mE] at hx <;> first | cases hx | skip
   · rfl
   · rename_i k n
     split at hx
     · rename_i hc
       cases hx
       exact ⟨rfl, hc⟩
     · cases hx
 | global g => cases hx
 | func f => cases hx
theorem AL {lk : Lk} {K : List (Nat × Bool)} (h : wE kd cx a w B N lk) (hK : ∀ q ∈ K, slot a q.1 = .bool q.2) (K' : List (Nat × Bool)) (x : Operand) (t : AT) (hx : fO lk K K' x = some t) (hK' : ∀ q ∈ K', a.eval (.tmp q.1) = .bool q.2) : bD kd cx w B N t (a.eval x) := by
 refine iF h (fun q hq => ?_) hx
 rcases List.mem_append.1 hq with hq | hq
 · obtain ⟨p, hp, hq⟩ := List.mem_flatMap.1 hq
   exact zV h 4 p (hK' p hp) q hq
 · exact hK q hq
theorem tN {lk : Lk} (h : wE kd cx a w B N lk) {g : Option (Nat × Bool)} (hg : ∀ q, g = some q → slot a q.1 = .bool q.2) : ∀ q ∈ gI lk g, slot a q.1 = .bool q.2 := by
 cases g with
 | none => intro q hq; cases hq
 | some q => exact zV h 4 q (hg q rfl)
theorem iM {ops : List Oper} {o : Oper} {g : Option (Nat × Bool)} (hg : ji ops o = some g) : Region.wanted o (yielded ops.toArray a.tmps) = true ↔ ∀ q, g = some q → slot a q.1 = .bool q.2 := by
 unfold ji at hg
 unfold Region.wanted
 split at hg
 · rename_i h
   cases hg
   rw [h]
   simp
 · rename_i j b h
   rw [h]
   split at hg
   · rename_i d hd
     cases hg
     have hd' : ((ops.toArray[j]?).bind (·.dst)) = some d := by simpa using hd
     have hy : yielded ops.toArray a.tmps j = match a.tmps[d]? with | some (.bool b) => some b | _ => none := by
       unfold yielded
       rw [hd']
       rfl
     show (yielded ops.toArray a.tmps j == some b) = true ↔ _
     rw [hy]
     simp only [Option.some.injEq, forall_eq', beq_iff_eq]
     unfold slot
     rw [Array.getD_eq_getD_getElem?]
     cases hv : a.tmps[d]? with
     | none => simp; exact fun h => Gv _ h
     | some v => cases v <;> simp
   · cases hg
structure dB (kd : Kd) (cx : Cx) (E : List EI) (B : Nat) (w0 : World) (nt N : Nat) (H : Hm) (lk : Lk) (a : Act) (w : World) : Prop where
 size : a.tmps.size = nt
 defers : a.defers = []
 wt : WT kd.sig B N w
 aS : Eff (dC B kd cx E) w0 w
 lk : wE kd cx a w B N lk
 hm : dL kd cx w B N H
theorem lL {d : Nat} {v : Value} (hd : d < a.tmps.size) (t : Nat) : slot (a.put (some d) v) t = if t = d then v else slot a t := by
 unfold slot Act.put
 simp only [Array.getD_eq_getD_getElem?, Array.getElem?_setIfInBounds]
 by_cases h : t = d
 · subst h; simp [hd]
 · simp [h, Ne.symm h]
theorem size_put {d : Option Nat} {v : Value} : (a.put d v).tmps.size = a.tmps.size := by cases d <;> simp [Act.put]
theorem Fj {d : Option Nat} {v : Value} : (a.put d v).defers = a.defers := by cases d <;> rfl
theorem fq.mono {e : kW} {t : Nat} {Ch : Nat → TypeId → Nat → Prop} (h : fq kd cx a w B N e t) (g : Eff Ch w w') (hN : N ≤ N') : fq kd cx a w' B N' e t := by
 unfold fq at *
 split
 · rename_i h'; rw [h'] at h; exact bD.mono h g hN
 · rename_i q h'; rw [h'] at h; exact ⟨fun hq => (h.1 hq).mono g hN, h.2⟩
theorem fq.put {e : kW} {t d : Nat} {v : Value} (h : fq kd cx a w B N e t) (hd : d < a.tmps.size) (ht : t ≠ d) (hq : ∀ q, e.1 = some q → q.1 ≠ d) : fq kd cx (a.put (some d) v) w B N e t := by
 unfold fq at *
 split
 · rename_i h'
   rw [h'] at h
   rw [lL hd, if_neg ht]; exact h
 · rename_i q h'
   rw [h'] at h
   simp only at h
   simp only [lL hd, if_neg ht, if_neg (hq q h')]; exact h
theorem M7 {g : Option (Nat × Bool)} {t : AT} {d : Nat} {v : Value} (hd : d < a.tmps.size) (hg : ∀ q, g = some q → q.1 ≠ d) (hw : (∀ q, g = some q → slot a q.1 = .bool q.2) → bD kd cx w B N t v) (hn : ¬ (∀ q, g = some q → slot a q.1 = .bool q.2) → v = undef) : fq kd cx (a.put (some d) v) w B N (g, t) d := by
 unfold fq
 cases g with
 | none => simp only; rw [lL hd, if_pos rfl]; exact hw (by simp)
 | some q =>
   simp only
   rw [lL hd, lL hd, if_pos rfl, if_neg (hg q rfl)]
   exact ⟨fun h => hw (by rintro _ ⟨rfl⟩; exact h), fun h => hn (fun hh => h (hh q rfl))⟩
def gne : Option (Nat × Bool) → Nat → Bool
 | some q, d => !Nat.beq q.1 d
 | none, _ => true
theorem abn {g : Option (Nat × Bool)} {d : Nat} (h : gne g d = true) : ∀ q, g = some q → q.1 ≠ d := by
 rintro q rfl
 simp only [gne, Bool.not_eq_true'] at h
 exact Nat.ne_of_beq_eq_false h
def LD : Option (Nat × Bool) → List Nat
 | some q => [q.1]
 | none => []
def CB (nt : Nat) (Γ : Gm) (gs : List Nat) (dst : Option Nat) (g : Option (Nat × Bool)) (r : Option AT) : Option (Gm × List Nat) :=
 match dst with
 | none => some (Γ, gs)
 | some d => if Nat.blt d nt && gs.all (fun x => !Nat.beq x d) && gne g d then some ((d, r.map fun t => (g, t)) :: Γ, LD g ++ gs) else none
def kZ : Option (Nat × Bool) → Hm → Hm → Hm
 | none, U, H => U ++ H
 | _, _, H => H
def Fp (P : Program) (kd : Kd) (ev : Ev) (FT : FuncId → Option aj) (E : List EI) (nt lim : Nat) (ops : List Oper) : List Oper → Gm → List Nat → Hm → Nat → Option (Gm × List Nat × Hm × Nat)
 | [], Γ, gs, H, n => some (Γ, gs, H, n)
 | o :: rest, Γ, gs, H, n => match ji ops o with
   | none => none
   | some g => match q9 P kd ev FT E H (fO Γ.at (gI Γ.at g)) o.op with
     | none => none
     | some (r, inc, D) => match CB nt Γ gs o.dst g r with
       | none => none
       | some (Γ', gs') => if Nat.ble (n + inc) lim then Fp P kd ev FT E nt lim ops rest Γ' gs' (kZ g (jI kd FT (fO Γ.at (gI Γ.at g)) o.op) (H.cut D)) (n + inc) else none
theorem Gm.at_set {Γ : Gm} {d t : Nat} {e : Option kW} : (Gm.at ((d, e) :: Γ) t = if t = d then e else Γ.at t) := by
 simp only [Gm.at]
 by_cases h : t = d
 · subst h; simp
 · rw [if_neg h]
   have : Nat.beq d t = false := by
     cases hb : Nat.beq d t with
     | false => rfl
     | true => exact absurd (Nat.eq_of_beq_eq_true hb).symm h
   rw [this]
   rfl
def oM (Γ : Gm) (gs : List Nat) : Prop := ∀ t e, Γ.at t = some e → ∀ q, e.1 = some q → q.1 ∈ gs
theorem qP {Γ Γ' : Gm} {gs gs' : List Nat} {dst : Option Nat} {g : Option (Nat × Bool)} {r : Option AT} {v : Value} {H H' : Hm} {Ch : Nat → TypeId → Nat → Prop} (hs : dB kd cx E B w0 nt N H Γ.at a w) (hgs : oM Γ gs) (hp : CB nt Γ gs dst g r = some (Γ', gs'))
   (h1 : WT kd.sig B N' w') (h2 : Eff (dC B kd cx E) w0 w') (h3 : Eff Ch w w') (hN : N ≤ N') (hH : dL kd cx w' B N' H') (hw : (∀ q, g = some q → slot a q.1 = .bool q.2) → ∀ t, r = some t → bD kd cx w' B N' t v) (hn : ¬ (∀ q, g = some q → slot a q.1 = .bool q.2) → v = undef) :
   dB kd cx E B w0 nt N' H' Γ'.at (a.put dst v) w' ∧ oM Γ' gs' := by
 cases dst with
 | none => cases hp; exact ⟨⟨hs.size, hs.defers, h1, h2, fun t e he => (hs.lk t e he).mono h3 hN, hH⟩, hgs⟩
 | some d =>
   simp only [CB] at hp
   split at hp
   · rename_i hc
     cases hp
     simp only [Bool.and_eq_true, List.all_eq_true] at hc
     obtain ⟨⟨c1, c2⟩, c3⟩ := hc
     have hd : d < a.tmps.size := by
       rw [hs.size]
       simp only [Nat.blt] at c1
       exact Nat.le_of_ble_eq_true c1
     have c2' : ∀ x ∈ gs, x ≠ d := fun x hx => by
       have := c2 x hx
       simp only [Bool.not_eq_true'] at this
       exact Nat.ne_of_beq_eq_false this
     refine ⟨⟨size_put.trans hs.size, Fj.trans hs.defers, h1, h2, fun t e he => ?_, hH⟩, fun t e he q hq => ?_⟩
     · rw [Gm.at_set] at he
       split at he
       · rename_i ht
         subst ht
         cases r with
         | none => cases he
         | some u =>
           cases he
           exact M7 hd (abn c3) (fun h => hw h u rfl) hn
       · rename_i ht
         exact ((hs.lk t e he).mono h3 hN).put hd ht fun q hq => c2' _ (hgs t e he q hq)
     · rw [Gm.at_set] at he
       split at he
       · cases r with
         | none => cases he
         | some u =>
           cases he
           simp only at hq
           subst hq
           simp [LD]
       · exact List.mem_append_right _ (hgs t e he q hq)
   · cases hp
theorem yC {N0 lim : Nat} {ev : Ev} (gH : ∀ f s, FT f = some s → au P f ∧ TC P kd cx.sh B G f s) (hev : rA ev cx G) (hb : cx.base = w0.heap.size) (hB : B ≤ w0.heap.size) (HG : ∀ w, Eff (dC B kd cx E) w0 w → G w) (hlim : N0 + lim ≤ 68719476736) {ops : List Oper} {Q : Exit → Act → World → Prop} :
   ∀ (rest : List Oper) (Γ Γ' : Gm) (gs gs' : List Nat) (H H' : Hm) (n n' : Nat) (a : Act) (w : World), Fp P kd ev FT E nt lim ops rest Γ gs H n = some (Γ', gs', H', n') → dB kd cx E B w0 nt (N0 + n) H Γ.at a w → oM Γ gs → (∀ a w, dB kd cx E B w0 nt (N0 + n') H' Γ'.at a w → oM Γ' gs' → Q .normal a w) → wpList P ops.toArray Q rest a w
 | [], Γ, Γ', gs, gs', H, H', n, n', a, w, h, hs, hg, hQ => by
   simp only [Fp, Option.some.injEq, Prod.mk.injEq] at h
   obtain ⟨rfl, rfl, rfl, rfl⟩ := h
   exact wpList_nil (hQ a w hs hg)
 | o :: rest, Γ, Γ', gs, gs', H, H', n, n', a, w, h, hs, hgs, hQ => by
   simp only [Fp] at h
   split at h
   · cases h
   · rename_i g hg
     split at h
     · cases h
     · rename_i r inc D ho
       split at h
       · cases h
       · rename_i Γ1 gs1 hp
         split at h
         · rename_i hle
           have Hq := Nat.le_of_ble_eq_true hle
           refine wpList_step fun K hK => ?_
           have hsz := hs.aS.size
           split
           · rename_i hw
             have hg1 := (iM hg).1 hw
             obtain ⟨hD, hout⟩ := yY ho gH hev hs.hm (fun K' x t hx hk => AL hs.lk (tN hs.lk hg1) K' x t hx hk) hs.wt hs.aS (by omega) (by omega) (HG w hs.aS) (by omega)
             refine hout.wp fun v w' hl => hK _ _ ?_
             obtain ⟨⟨l1, l2, l3, l4⟩, l5⟩ := hl
             have hH1 : dL kd cx w' B (N0 + n + inc) (H.cut D) := hs.hm.cut hD l3 (Nat.le_add_right _ _)
             have hH2 : dL kd cx w' B (N0 + n + inc) (kZ g (jI kd FT (fO Γ.at (gI Γ.at g)) o.op) (H.cut D)) := by
               unfold kZ
               split
               · exact hH1.append l5
               · exact hH1
             obtain ⟨p1, p2⟩ := qP hs hgs hp l1 l2 l3 (Nat.le_add_right _ _) hH2 (fun _ => l4) (fun hn => absurd hg1 hn)
             exact yC gH hev hb hB HG hlim rest Γ1 Γ' gs1 gs' _ H' (n + inc) n' _ w' h (by rw [← Nat.add_assoc]; exact p1) p2 hQ
           · rename_i hw
             have hg1 := fun hh => hw ((iM hg).2 hh)
             have hgn : g ≠ none := fun e => hg1 (by subst e; simp)
             have hH2 : dL kd cx w B (N0 + n + inc) (kZ g (jI kd FT (fO Γ.at (gI Γ.at g)) o.op) (H.cut D)) := by
               have : kZ g (jI kd FT (fO Γ.at (gI Γ.at g)) o.op) (H.cut D) = H.cut D := by
                 cases g with
                 | none => exact absurd rfl hgn
                 | some q => rfl
               rw [this]
               exact fun i T o t ht => by
                 obtain ⟨k1, k2, k3, v, k4, k5⟩ := hs.hm i T o t (Hm.sS ht).1
                 exact ⟨k1, k2, k3, v, k4, k5.mono (Eff.refl (fun _ _ _ => False) w) (Nat.le_add_right _ _)⟩
             obtain ⟨p1, p2⟩ := qP hs hgs hp (hs.wt.mono (Nat.le_add_right _ inc)) hs.aS (Eff.refl (fun _ _ _ => False) _) (Nat.le_add_right _ _) hH2 (fun hh => absurd hh hg1) (fun _ => rfl)
             exact hK _ _ (yC gH hev hb hB HG hlim rest Γ1 Γ' gs1 gs' _ H' (n + inc) n' _ w h (by rw [← Nat.add_assoc]; exact p1) p2 hQ)
         · cases h
end Go.Proofs.YtncnepmgmphanaaGreatDoor
