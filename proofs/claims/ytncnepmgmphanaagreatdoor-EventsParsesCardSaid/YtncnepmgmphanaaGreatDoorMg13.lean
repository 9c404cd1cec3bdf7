/- The checker once more: the result's own row is told apart from parameters' rows (printed by gen_s2.py). Plain; no condition. -/
import Derived.Test.YtncnepmgmphanaaGreatDoorTcR
import Derived.Test.YtncnepmgmphanaaGreatDoorMg12
set_option linter.unusedVariables false
set_option linter.unusedSimpArgs false
set_option linter.unusedSectionVars false
namespace Go.Proofs.YtncnepmgmphanaaGreatDoor
section
open Go.RowKit
variable {P : Program} {kd : Kd} {cx : Cx} {w w' w0 : World} {B N N' : Nat} {E : List EI} {FT : FuncId → Option aj} {FA : FuncId → Option (aj × List (AT × Hm))} {od : Od} {G : World → Prop} {a : Act} {nt : Nat}
def Ms (cx : Cx) : Prop := ∀ i, i ≠ 1000 → (cx.ps i).1 ≠ (cx.ps 1000).1
def uY (D : List EI) (i T o : Nat) : Bool := D.any fun
 | .par j U q => Nat.beq U T && Nat.beq q o && !(Nat.beq j 1000 && !Nat.beq i 1000)
 | .ty U q => Nat.beq U T && Nat.beq q o
def Hm.qH (H : Hm) (D : List EI) : Hm := H.filter fun p => !uY D p.1.1 p.1.2.1 p.1.2.2
theorem Hm.Am {D : List EI} : ∀ {H : Hm} {i T o : Nat} {t : AT}, (H.qH D).at (i, T, o) = some t → H.at (i, T, o) = some t ∧ uY D i T o = false
 | [], _, _, _, _, h => by cases h
 | ((j, U, q), u) :: H, i, T, o, t, h => by
   have ih := @Hm.Am D H i T o t
   unfold Hm.qH at h ih
   simp only [List.filter_cons] at h
   by_cases hk : uY D j U q = true
   · simp only [hk, Bool.not_true, Bool.false_eq_true, if_false] at h
     obtain ⟨h1, h2⟩ := ih h
     refine ⟨?_, h2⟩
     simp only [Hm.at]
     cases hb : (Nat.beq j i && Nat.beq U T && Nat.beq q o) with
     | true =>
       simp only [Bool.and_eq_true] at hb
       rw [Nat.eq_of_beq_eq_true hb.1.1, Nat.eq_of_beq_eq_true hb.1.2, Nat.eq_of_beq_eq_true hb.2, h2] at hk
       cases hk
     | false => exact h1
   · simp only [hk, Bool.not_false, if_true] at h
     simp only [Hm.at] at h ⊢
     cases hb : (Nat.beq j i && Nat.beq U T && Nat.beq q o) with
     | true =>
       rw [hb] at h
       simp only [Bool.and_eq_true] at hb
       rw [← Nat.eq_of_beq_eq_true hb.1.1, ← Nat.eq_of_beq_eq_true hb.1.2, ← Nat.eq_of_beq_eq_true hb.2]
       exact ⟨h, by simpa using hk⟩
     | false => rw [hb] at h; exact ih h
theorem dL.step2 (hsep : Ms cx) {H : Hm} {D : List EI} {N' : Nat} (h : dL kd cx w B N H) (hD : D.all (lU kd E) = true) (hE : Eff (dC B kd cx D) w w') (hN : N ≤ N') (hk : ∀ i T o t, H.at (i, T, o) = some t → uY D i T o = false) : dL kd cx w' B N' H := by
 intro i T o t ht
 obtain ⟨h1, h2, h3, v, h4, h5⟩ := h i T o t ht
 refine ⟨h1, h2, h3.mono hE, v, ?_, h5.mono hE hN⟩
 obtain ⟨c, -, hc, -⟩ := h3
 obtain ⟨c', e1, -, e2⟩ := hE.cells _ _ _ _ hc
 rw [aa hc] at h4
 rw [aa e1, e2 _ ?_, h4]
 have hkk := hk i T o t ht
 unfold uY at hkk
 rw [List.any_eq_false] at hkk
 rintro (hb | ⟨i', o', hm, hki, hj, -⟩ | ⟨o', hm, hj, -⟩)
 · omega
 · have := hkk _ hm
   have hoo : o' = o := by
     have hlt : o' < kd.sz T := by
       rw [List.all_eq_true] at hD
       have := hD _ hm
       simp only [lU, Bool.and_eq_true, decide_eq_true_eq] at this
       exact this.2
     · have e3 : ((cx.ps i).2 * kd.sz T + o) % kd.sz T = ((cx.ps i').2 * kd.sz T + o') % kd.sz T := by rw [hj]
       rw [Nat.add_comm, Nat.add_mul_mod_self_right, Nat.mod_eq_of_lt h2, Nat.add_comm, Nat.add_mul_mod_self_right, Nat.mod_eq_of_lt hlt] at e3
       exact e3.symm
   subst hoo
   by_cases afB : i' = 1000 ∧ i ≠ 1000
   · obtain ⟨rfl, hi⟩ := afB
     exact hsep i hi hki
   · have b1 : (Nat.beq i' 1000 && !Nat.beq i 1000) = false := by
       cases hb1 : Nat.beq i' 1000 with
       | false => rfl
       | true =>
         cases hb2 : Nat.beq i 1000 with
         | true => rfl
         | false => exact absurd ⟨Nat.eq_of_beq_eq_true hb1, Nat.ne_of_beq_eq_false hb2⟩ afB
     simp [b1] at this
 · have := hkk _ hm
   rw [Nat.add_comm, Nat.add_mul_mod_self_right, Nat.mod_eq_of_lt h2] at hj
   subst hj
   simp at this
theorem dL.qH (hsep : Ms cx) {H : Hm} {D : List EI} {N' : Nat} (h : dL kd cx w B N H) (hD : D.all (lU kd E) = true) (hE : Eff (dC B kd cx D) w w') (hN : N ≤ N') : dL kd cx w' B N' (H.qH D) :=
 dL.step2 hsep (fun i T o t ht => h i T o t (Hm.Am ht).1) hD hE hN (fun i T o t ht => (Hm.Am ht).2)
def Aj (P : Program) (kd : Kd) (ev : Ev) (FT : FuncId → Option aj) (FA : FuncId → Option (aj × List (AT × Hm))) (E : List EI) (nt lim : Nat) (ops : List Oper) : List Oper → Gm → List Nat → Hm → Nat → (Gm → List Nat → Hm → Nat → Bool) → Bool
 | [], Γ, gs, H, n, k => k Γ gs H n
 | o :: rest, Γ, gs, H, n, k => match ji ops o with
   | none => false
   | some g => match Lp FA o g with
     | some (args, s, alts) => (tC kd (fO Γ.at []) s.ps args && s.aS.all (sD kd (fO Γ.at []) s.ps args) && (s.aS.flatMap (jH (fO Γ.at []) args)).all (lU kd E) && alts.all (fun q => jl q.1) && s.pre.all (vW kd (fO Γ.at []) H s.ps args)) && Nat.ble (n + s.inc) lim &&
         alts.all fun q => match CB nt Γ gs o.dst none (some q.1) with
           | some (Γ', gs') => Aj P kd ev FT FA E nt lim ops rest Γ' gs' (q.2.filterMap (AY (fO Γ.at []) q.2 s.ps args) ++ H.qH (s.aS.flatMap (jH (fO Γ.at []) args))) (n + s.inc) k
           | none => false
     | none => match q9 P kd ev FT E H (fO Γ.at (gI Γ.at g)) o.op with
       | none => false
       | some (r, inc, D) => match CB nt Γ gs o.dst g r with
         | none => false
         | some (Γ', gs') => Nat.ble (n + inc) lim && Aj P kd ev FT FA E nt lim ops rest Γ' gs' (kZ g (jI kd FT (fO Γ.at (gI Γ.at g)) o.op) (H.qH D)) (n + inc) k
theorem nE (hsep : Ms cx) {N0 lim : Nat} {ev : Ev} (gH : ∀ f s, FT f = some s → au P f ∧ TC P kd cx.sh B G f s) (qU : ∀ f q, FA f = some q → au P f ∧ aV P kd cx.sh B G f q.1 q.2) (hev : rA ev cx G) (hb : cx.base = w0.heap.size) (hB : B ≤ w0.heap.size) (HG : ∀ w, Eff (dC B kd cx E) w0 w → G w) (hlim : N0 + lim ≤ 68719476736) {ops : List Oper} {Q : Exit → Act → World → Prop} {k : Gm → List Nat → Hm → Nat → Bool} (hQ : ∀ Γ gs H n a w, k Γ gs H n = true → dB kd cx E B w0 nt (N0 + n) H Γ.at a w → oM Γ gs → Q .normal a w) :
   ∀ (rest : List Oper) (Γ : Gm) (gs : List Nat) (H : Hm) (n : Nat) (a : Act) (w : World), Aj P kd ev FT FA E nt lim ops rest Γ gs H n k = true → dB kd cx E B w0 nt (N0 + n) H Γ.at a w → oM Γ gs → wpList P ops.toArray Q rest a w
 | [], Γ, gs, H, n, a, w, h, hs, hg => wpList_nil (hQ Γ gs H n a w h hs hg)
 | o :: rest, Γ, gs, H, n, a, w, h, hs, hgs => by
   have hsz := hs.aS.size
   simp only [Aj] at h
   split at h
   · cases h
   · rename_i g hg
     split at h
     · rename_i args s alts hcall
       obtain rfl : g = none := by cases g with
         | none => rfl
         | some q => cases hcall
       simp only [Lp] at hcall
       cases hco : xH o.op with
       | none => rw [hco] at hcall; cases hcall
       | some c =>
         rw [hco] at hcall
         simp only [Option.bind_some, Option.map_eq_some_iff] at hcall
         obtain ⟨q0, hfa, hq0⟩ := hcall
         obtain ⟨f, args'⟩ := c
         cases hq0
         obtain ⟨HC, HT⟩ := qU f _ hfa
         simp only [Bool.and_eq_true] at h
         obtain ⟨⟨hc, hle⟩, hall⟩ := h
         have Hq := Nat.le_of_ble_eq_true hle
         obtain ⟨dst, op, ty, pos, after, guard⟩ := o
         simp only at hco hall
         unfold xH at hco
         split at hco
         · rename_i f' args' oO
           cases hco
           refine wpList_step fun K hK => ?_
           have hg1 : ∀ q, (none : Option (Nat × Bool)) = some q → slot a q.1 = .bool q.2 := fun q e => by cases e
           rw [if_pos ((iM hg).2 hg1)]
           obtain ⟨hD, hout⟩ := PS (dst := dst) (ty := ty) (pos := pos) (after := after) (guard := guard) (oO := oO) (by simpa only [Bool.and_eq_true] using hc) HC HT hs.hm (fun x t hx => AL hs.lk (by simp) [] x t hx (by simp)) hs.wt hs.aS (by omega) (by omega) (HG w hs.aS) (by show N0 + n + s.inc ≤ _; omega)
           refine hout.wp fun v w' hl => hK _ _ ?_
           obtain ⟨q, hq, ⟨l1, l2, l3, l4⟩, l5⟩ := hl
           have hx := List.all_eq_true.1 hall q hq
           split at hx
           · rename_i Γ1 gs1 hp
             have hH2 := (hs.hm.qH hsep hD l3 (Nat.le_add_right _ s.inc)).append l5
             obtain ⟨p1, p2⟩ := qP hs hgs hp l1 l2 l3 (Nat.le_add_right _ _) hH2 (fun _ => l4) (fun hn => absurd hg1 hn)
             exact nE hsep gH qU hev hb hB HG hlim hQ rest Γ1 gs1 _ (n + s.inc) _ w' hx (by rw [← Nat.add_assoc]; exact p1) p2
           · cases hx
         · cases hco
     · split at h
       · cases h
       · rename_i r inc D ho
         split at h
         · cases h
         · rename_i Γ1 gs1 hp
           simp only [Bool.and_eq_true] at h
           obtain ⟨hle, h⟩ := h
           have Hq := Nat.le_of_ble_eq_true hle
           refine wpList_step fun K hK => ?_
           split
           · rename_i hw
             have hg1 := (iM hg).1 hw
             obtain ⟨hD, hout⟩ := yY ho gH hev hs.hm (fun K' x t hx hk => AL hs.lk (tN hs.lk hg1) K' x t hx hk) hs.wt hs.aS (by omega) (by omega) (HG w hs.aS) (by omega)
             refine hout.wp fun v w' hl => hK _ _ ?_
             obtain ⟨⟨l1, l2, l3, l4⟩, l5⟩ := hl
             have hH1 : dL kd cx w' B (N0 + n + inc) (H.qH D) := hs.hm.qH hsep hD l3 (Nat.le_add_right _ _)
             have hH2 : dL kd cx w' B (N0 + n + inc) (kZ g (jI kd FT (fO Γ.at (gI Γ.at g)) o.op) (H.qH D)) := by
               unfold kZ
               split
               · exact hH1.append l5
               · exact hH1
             obtain ⟨p1, p2⟩ := qP hs hgs hp l1 l2 l3 (Nat.le_add_right _ _) hH2 (fun _ => l4) (fun hn => absurd hg1 hn)
             exact nE hsep gH qU hev hb hB HG hlim hQ rest Γ1 gs1 _ (n + inc) _ w' h (by rw [← Nat.add_assoc]; exact p1) p2
           · rename_i hw
             have hg1 := fun hh => hw ((iM hg).2 hh)
             have hgn : g ≠ none := fun e => hg1 (by subst e; simp)
             have hH2 : dL kd cx w B (N0 + n + inc) (kZ g (jI kd FT (fO Γ.at (gI Γ.at g)) o.op) (H.qH D)) := by
               have : kZ g (jI kd FT (fO Γ.at (gI Γ.at g)) o.op) (H.qH D) = H.qH D := by
                 cases g with
                 | none => exact absurd rfl hgn
                 | some q => rfl
               rw [this]
               exact fun i T o t ht => by
                 obtain ⟨k1, k2, k3, v, k4, k5⟩ := hs.hm i T o t (Hm.Am ht).1
                 exact ⟨k1, k2, k3, v, k4, k5.mono (Eff.refl (fun _ _ _ => False) w) (Nat.le_add_right _ _)⟩
             obtain ⟨p1, p2⟩ := qP hs hgs hp (hs.wt.mono (Nat.le_add_right _ inc)) hs.aS (Eff.refl (fun _ _ _ => False) _) (Nat.le_add_right _ _) hH2 (fun hh => absurd hh hg1) (fun _ => rfl)
             exact hK _ _ (nE hsep gH qU hev hb hB HG hlim hQ rest Γ1 gs1 _ (n + inc) _ w h (by rw [← Nat.add_assoc]; exact p1) p2)
def gT (P : Program) (kd : Kd) (ev : Ev) (FT : FuncId → Option aj) (FA : FuncId → Option (aj × List (AT × Hm))) (lp : Bool) (E : List EI) (nt lim : Nat) : Code → Gm → Hm → Nat → (Gm → Hm → Nat → Bool) → (Nat → Gm → Hm → Nat → Bool) → (Gm → Hm → Nat → Bool) → Bool
 | .skip, Γ, H, n, kn, _, _ => kn Γ H n
 | .region _ ops true, Γ, H, n, kn, _, _ => match vo P kd ev FT E nt lim n ops.toList Γ (FK P kd ev FT E ops.toList Γ H) with
   | some (Γ', H', m) => kn Γ' H' (n + m)
   | none => false
 | .region _ ops false, Γ, H, n, kn, _, _ => Aj P kd ev FT FA E nt lim ops.toList ops.toList Γ [] H n fun Γ' gs' H' n' => kn (sU Γ' gs') H' n'
 | .seq a b, Γ, H, n, kn, kx, kr => gT P kd ev FT FA lp E nt lim a Γ H n (fun Γ H n => gT P kd ev FT FA lp E nt lim b Γ H n kn kx kr) kx kr
 | .cond c x y, Γ, H, n, kn, kx, kr => match mE Γ.at [] c with
   | some (.kb true) => gT P kd ev FT FA lp E nt lim x Γ H n kn kx kr
   | some (.kb false) => gT P kd ev FT FA lp E nt lim y Γ H n kn kx kr
   | some (.v (.c .bool)) => gT P kd ev FT FA lp E nt lim x Γ H n kn kx kr && gT P kd ev FT FA lp E nt lim y Γ H n kn kx kr
   | _ => false
 | .block id b, Γ, H, n, kn, kx, kr => gT P kd ev FT FA lp E nt lim b Γ H n kn (fun i Γ H n => if i = id then kn Γ H n else kx i Γ H n) kr
 | .exit id, Γ, H, n, _, kx, _ => kx id Γ H n
 | .scope b, Γ, H, n, kn, kx, kr => gT P kd ev FT FA lp E nt lim b Γ H n kn kx kr
 | .ret, Γ, H, n, _, _, kr => kr Γ H n
 | .loop b, Γ, H, n, kn, kx, kr => lp && match TL b with
   | some d => (match Γ.at d with | some (none, t) => decide (iT t = some .i64) | _ => false) &&
       gT P kd ev FT FA lp E nt lim b ((d, some (none, .cnt 0)) :: fD Γ) [] n (fun Γ' H' n' => Nat.beq n' n && (match Γ'.at d with | some (none, .xc 0) => true | _ => false) && fits kd (fD Γ) Γ' d) (fun i Γ' H' n' => kx i (fD Γ') [] n') (fun Γ' H' n' => kr (fD Γ') [] n') &&
       gT P kd ev FT FA lp E nt lim b ((d, some (none, .FN 0)) :: fD Γ) [] n (fun _ _ _ => false) (fun i Γ' H' n' => kx i (fD Γ') [] n') (fun Γ' H' n' => kr (fD Γ') [] n')
   | none => false
 | _, _, _, _, _, _, _ => false
theorem RX {ev : Ev} {sh : Sh} {lp : Bool} (vU : ∀ y, (lp = true ∨ y = none) → ∀ f s, FT f = some s → au P f ∧ TC P kd (pR sh y) B G f s) (vS : ∀ y, (lp = true ∨ y = none) → ∀ f q, FA f = some q → au P f ∧ aV P kd (pR sh y) B G f q.1 q.2) (Qj : rf ev sh G) (hW : lp = true → ∃ W, sh.el 0 = .int .i64 W ∧ bB .i64 W) (hB : B ≤ w0.heap.size) (hm : P.follows .mixedOrders = true) (N0 : Nat) {lim : Nat} (hlim : N0 + lim ≤ 68719476736) :
   ∀ (c : Code) (cx : Cx) (hsep : Ms cx) (hcx : ∃ y, (lp = true ∨ y = none) ∧ cx.sh = pR sh y) (hb : cx.base = w0.heap.size) (HG : ∀ w, Eff (dC B kd cx E) w0 w → G w) (Γ : Gm) (H : Hm) (n : Nat) (kn : Gm → Hm → Nat → Bool) (kx : Nat → Gm → Hm → Nat → Bool) (kr : Gm → Hm → Nat → Bool) (Q : Exit → Act → World → Prop) (a : Act) (w : World), gT P kd ev FT FA lp E nt lim c Γ H n kn kx kr = true → dB kd cx E B w0 nt (N0 + n) H Γ.at a w → Plain Γ →
     (∀ Γ H n a w, kn Γ H n = true → dB kd cx E B w0 nt (N0 + n) H Γ.at a w → Plain Γ → Q .normal a w) →
     (∀ i Γ H n a w, kx i Γ H n = true → dB kd cx E B w0 nt (N0 + n) H Γ.at a w → Plain Γ → Q (.exit i) a w) →
     (∀ Γ H n a w, kr Γ H n = true → dB kd cx E B w0 nt (N0 + n) H Γ.at a w → Plain Γ → Q .ret a w) → c.wp P Q a w := by
 intro c
 induction c with
 | skip => intro cx hsep hcx hb HG Γ H n kn kx kr Q a w h hs hp h1 h2 h3; exact wp_skip (h1 Γ H n a w h hs hp)
 | region id ops draw =>
   intro cx hsep hcx hb HG Γ H n kn kx kr Q a w h hs hp h1 h2 h3
   obtain ⟨ops⟩ := ops
   obtain ⟨y, hy, hsh⟩ := hcx
   have gH : ∀ f s, FT f = some s → au P f ∧ TC P kd cx.sh B G f s := by rw [hsh]; exact vU y hy
   have qU : ∀ f q, FA f = some q → au P f ∧ aV P kd cx.sh B G f q.1 q.2 := by rw [hsh]; exact vS y hy
   have hev : rA ev cx G := by
     show rf ev cx.sh G
     rw [hsh]
     cases y with
     | none => exact Qj
     | some x => exact Qj
   cases draw with
   | true =>
     simp only [gT, vo, vH] at h
     split at h
     · rename_i Γ' H' m hr
       split at hr
       · rename_i hd
         cases hr
         simp only [Bool.and_eq_true] at hd
         have hle := Nat.le_of_ble_eq_true hd.2
         exact uE gH hev hb hB HG hm (by omega) hd.1 (Ae hs) hp fun a w hs' hp' => h1 _ _ _ a w h (by rw [← Nat.add_assoc]; exact hs') hp'
       · cases hr
     · cases h
   | false =>
     simp only [gT] at h
     refine wp_region_lit (nE hsep gH qU hev hb hB HG hlim (k := fun Γ' gs' H' n' => kn (sU Γ' gs') H' n') (fun Γ' gs' H' n' a w hk hs' hg' => ?_) ops Γ [] H n a w h hs (fun t e he q hq => by rw [hp t e he] at hq; cases hq))
     obtain ⟨e1, e2⟩ := vE hs' hg'
     exact h1 _ _ n' a w hk e1 e2
 | seq x y tJ uh =>
   intro cx hsep hcx hb HG Γ H n kn kx kr Q a w h hs hp h1 h2 h3
   simp only [gT] at h
   exact wp_seq (tJ cx hsep hcx hb HG Γ H n _ kx kr _ a w h hs hp (fun Γ H n a w hk hs hp => uh cx hsep hcx hb HG Γ H n kn kx kr Q a w hk hs hp h1 h2 h3) h2 h3)
 | cond c x y tJ uh =>
   intro cx hsep hcx hb HG Γ H n kn kx kr Q a w h hs hp h1 h2 h3
   simp only [gT] at h
   split at h
   · rename_i g1
     have hbv : a.eval c = .bool true := iF (K := []) hs.lk (by simp) g1
     exact wp_cond_true hbv (tJ cx hsep hcx hb HG Γ H n kn kx kr Q a w h hs hp h1 h2 h3)
   · rename_i g1
     have hbv : a.eval c = .bool false := iF (K := []) hs.lk (by simp) g1
     exact wp_cond_false hbv (uh cx hsep hcx hb HG Γ H n kn kx kr Q a w h hs hp h1 h2 h3)
   · rename_i g1
     simp only [Bool.and_eq_true] at h
     obtain ⟨b, hbv⟩ := iF (K := []) hs.lk (by simp) g1
     cases b with
     | true => exact wp_cond_true hbv (tJ cx hsep hcx hb HG Γ H n kn kx kr Q a w h.1 hs hp h1 h2 h3)
     | false => exact wp_cond_false hbv (uh cx hsep hcx hb HG Γ H n kn kx kr Q a w h.2 hs hp h1 h2 h3)
   · cases h
 | block id b ih =>
   intro cx hsep hcx hb HG Γ H n kn kx kr Q a w h hs hp h1 h2 h3
   simp only [gT] at h
   refine wp_block (ih cx hsep hcx hb HG Γ H n kn _ kr _ a w h hs hp h1 (fun i Γ H n a w hk hs hp => ?_) h3)
   simp only [Exit.inBlock]
   split at hk
   · rename_i e
     rw [if_pos e]
     exact h1 Γ H n a w hk hs hp
   · rename_i e
     rw [if_neg e]
     exact h2 i Γ H n a w hk hs hp
 | loop b ih =>
   intro cx hsep hcx hb HG Γ H n kn kx kr Q a w h hs hp h1 h2 h3
   simp only [gT, Bool.and_eq_true] at h
   obtain ⟨hlp, h⟩ := h
   split at h
   · rename_i d hd
     simp only [Bool.and_eq_true] at h
     obtain ⟨⟨ht, hc1⟩, hc2⟩ := h
     obtain ⟨y, hy, hsh⟩ := hcx
     obtain ⟨W, hW1, hW2⟩ := hW hlp
     have hel : cx.el 0 = .int .i64 W := by
       have : cx.sh.el = sh.el := by rw [hsh]; cases y <;> rfl
       show cx.sh.el 0 = _
       rw [this]; exact hW1
     split at ht
     · rename_i t0 hΓd
       have hk0 : iT t0 = some .i64 := of_decide_eq_true ht
       have hwd : ∀ e, (fD Γ).at d = some e → e.2 = .v (.c (.int .i64)) := fun e he => by
         rw [qB, hΓd] at he
         simp only [uj, hk0] at he
         cases he; rfl
       obtain ⟨x0, hx0, hi0⟩ := iX hk0 (hs.lk d _ hΓd)
       refine wp_loop (fun a w => ∃ x, slot a d = .int .i64 x ∧ bB .i64 x ∧ dB kd cx E B w0 nt (N0 + n) [] (fD Γ).at a w) (fun a w => (W - qW (slot a d)).toNat) ⟨x0, hx0, hi0, lV hs⟩ ?_
       rintro a w ⟨x, hx, hi, hst⟩
       have LG : ∃ y, (lp = true ∨ y = none) ∧ (rJ cx x).sh = pR sh y := ⟨some x, .inl hlp, by
         rw [← TR sh y x, ← hsh]; rfl⟩
       have YR : (rJ cx x).vals 8 = .int .i64 x := by simp [rJ]
       by_cases hlt : x < W
       · refine ih (rJ cx x) hsep LG hb HG _ [] n _ _ _ _ a w hc1 (Ak (jF.2 hst) ⟨x, W, hx, by rw [YR, hx], hel, hlt, hi, hW2⟩) (pW (fE Γ)) ?_ ?_ ?_
         · intro Γ' H' n' a' w' hk hs' hp'
           simp only [Bool.and_eq_true] at hk
           obtain ⟨⟨k1, k2⟩, k3⟩ := hk
           have := Nat.eq_of_beq_eq_true k1
           subst this
           split at k2
           · rename_i hΓ'
             obtain ⟨x', W', e1, e2, e3, e4, e5, e6⟩ := hs'.lk d _ hΓ'
             rw [YR] at e2
             cases e2
             have hin := xX e4 e5 e6
             refine ⟨⟨x + 1, e1, hin, jF.1 (Ua (by show B ≤ cx.base; omega) hs' k3 fun e he => ?_)⟩, ?_⟩
             · rw [hwd e he]; exact ⟨_, e1, hin⟩
             · show (W - qW (slot a' d)).toNat < (W - qW (slot a d)).toNat
               have e7 : slot a' d = .int .i64 (x + 1) := e1
               rw [e7, hx]
               simp only [qW]
               omega
           · cases k2
         · intro i Γ' H' n' a' w' hk hs' hp'
           exact h2 i _ _ _ a' w' hk (jF.1 (lV hs')) (fE _)
         · intro Γ' H' n' a' w' hk hs' hp'
           exact h3 _ _ _ a' w' hk (jF.1 (lV hs')) (fE _)
       · refine ih (rJ cx x) hsep LG hb HG _ [] n _ _ _ _ a w hc2 (Ak (jF.2 hst) ⟨x, W, hx, hel, hlt, hi⟩) (pW (fE Γ)) ?_ ?_ ?_
         · intro Γ' H' n' a' w' hk; cases hk
         · intro i Γ' H' n' a' w' hk hs' hp'
           exact h2 i _ _ _ a' w' hk (jF.1 (lV hs')) (fE _)
         · intro Γ' H' n' a' w' hk hs' hp'
           exact h3 _ _ _ a' w' hk (jF.1 (lV hs')) (fE _)
     · cases ht
   · cases h
 | rangeFunc f p s b ih1 ih2 => intro cx hsep hcx hb HG Γ H n kn kx kr Q a w h; simp [gT] at h
 | exit id => intro cx hsep hcx hb HG Γ H n kn kx kr Q a w h hs hp h1 h2 h3; exact wp_exit (h2 id Γ H n a w h hs hp)
 | scope b ih =>
   intro cx hsep hcx hb HG Γ H n kn kx kr Q a w h hs hp h1 h2 h3
   simp only [gT] at h
   exact wp_scope_straight (ih cx hsep hcx hb HG Γ H n kn kx kr _ a w h hs hp h1 h2 h3)
 | label l => intro cx hsep hcx hb HG Γ H n kn kx kr Q a w h; simp [gT] at h
 | goto l => intro cx hsep hcx hb HG Γ H n kn kx kr Q a w h; simp [gT] at h
 | ret => intro cx hsep hcx hb HG Γ H n kn kx kr Q a w h hs hp h1 h2 h3; exact wp_ret (h3 Γ H n a w h hs hp)
 | refuse s => intro cx hsep hcx hb HG Γ H n kn kx kr Q a w h; simp [gT] at h
def mX (P : Program) (kd : Kd) (ev : Ev) (FT : FuncId → Option aj) (FA : FuncId → Option (aj × List (AT × Hm))) (lp : Bool) (ae : List (Nat × Nat)) (fn : Func) (s : aj) (alts : List (AT × Hm)) : Bool :=
 match fn.body with
 | some (.seq (.region _ ops false) rest) => match ops.toList with
   | ⟨some d, .alloc T, _, _, _, none⟩ :: more => match kd T, (P.info? T).bind (·.zero) with
     | some k, some z => eZ k.cells z.cells.toList && decide (0 < kd.sz T) && Nat.blt d fn.ntmps && Nat.ble s.ps.length d && Nat.ble d 1000 && wF s.ps 1 && s.ps.all IZ && s.pre.all (fun e => wF s.ps e.1.1 && jl e.2) && s.aS.all Lj &&
         (s.aS ++ mR T (kd.sz T)).all (ve kd ae) && alts.all (fun q => jl q.1 && q.2.all fun e => wF s.ps e.1.1 && Gd e.2) &&
         Aj P kd ev FT FA (s.aS ++ mR T (kd.sz T)) fn.ntmps s.inc ops.toList more ((d, some (none, .ptr T 0 (.par 1000))) :: rR s.ps 0) [] s.pre 0 (fun Γ gs H n => gT P kd ev FT FA lp (s.aS ++ mR T (kd.sz T)) fn.ntmps s.inc rest (sU Γ gs) H n (kJ P kd fn.results.toList s alts) (fun _ _ _ _ => false) (kJ P kd fn.results.toList s alts))
     | _, _ => false
   | _ => false
 | _ => false
theorem Wv {alts : List (AT × Hm)} {ev : Ev} {sh : Sh} {lp : Bool} {ae : List (Nat × Nat)} {f : FuncId} {fn : Func} {s : aj} (hf : P.funcs[f]? = some fn) (h : mX P kd ev FT FA lp ae fn s alts = true) (vU : ∀ y, (lp = true ∨ y = none) → ∀ f s, FT f = some s → au P f ∧ TC P kd (pR sh y) B G f s) (vS : ∀ y, (lp = true ∨ y = none) → ∀ f q, FA f = some q → au P f ∧ aV P kd (pR sh y) B G f q.1 q.2) (hev : rf ev sh G) (hW : lp = true → ∃ W, sh.el 0 = .int .i64 W ∧ bB .i64 W) (hS : Safe kd ae G) (hm : P.follows .mixedOrders = true) : aV P kd sh B G f s alts := by
 intro N w args hargs hB hlim hwt hG hps hpre
 unfold mX at h
 split at h
 · rename_i id ops rest hbody
   split at h
   · rename_i d T ty pos after more hops
     split at h
     · rename_i k z hk hz
       simp only [Bool.and_eq_true, decide_eq_true_eq] at h
       obtain ⟨⟨⟨⟨⟨⟨⟨⟨⟨⟨⟨c1, c2⟩, c3⟩, c4⟩, c5⟩, c5p⟩, c6⟩, c7⟩, c8⟩, c9⟩, c10⟩, c11⟩ := h
       have c3 : @LT.lt Nat _ d fn.ntmps := by simp only [Nat.blt] at c3; exact Nat.le_of_ble_eq_true c3
       have c4 := Nat.le_of_ble_eq_true c4
       have c5 := Nat.le_of_ble_eq_true c5
       have hall := fJ (B := B) (N := N) c1 w
       have hL := hall.len
       have hsz : kd.sz T = k.cells.length := Kd.qK (Kd.uV hk)
       obtain ⟨w1, hw1⟩ : ∃ w1, w1 = w.alloc (.cells z.cells.toList.toArray T) := ⟨_, rfl⟩
       have hsz1 : w1.heap.size = w.heap.size + 1 := by rw [hw1]; simp
       have hE1 : Eff (fun _ _ _ => False) w w1 := by rw [hw1]; exact Eff.bL _ _ _
       have hblk : w1.heap[w.heap.size]? = some (.cells z.cells.toList.toArray T (0, 0)) := by rw [hw1]; exact blk_alloc_new _ _
       have aeR : WT kd.sig B N w1 := by rw [hw1]; exact hwt.alloc (Kd.uV hk) (aT.one hall)
       have hG1 : G w1 := hS w w1 hG (hE1.mono fun _ _ _ _ h => h.elim)
       have hle : w.heap.size ≤ w1.heap.size := by omega
       have hsep : Ms (gX kd sh s args w w1) := fun i hi => by
         obtain ⟨-, hlt⟩ := sW (i := 1) c5p hps c6
         have hpi : (l8 kd s.ps args i).1 < w.heap.size := by
           unfold l8
           split
           · rename_i T1 o1 g1 a1 e1 e2
             obtain ⟨v, ev, b, r, rfl, -, ⟨c, -, hcb, -⟩, -⟩ := hps i _ e1
             rw [e2] at ev
             cases ev
             exact aK hcb
           · show 0 < _
             omega
         simp only [gX, if_neg hi, if_pos]
         omega
       -- what is known at the end, told of the first world
       have fin : ∀ (Γ : Gm) (H : Hm) (n : Nat) (a : Act) (w' : World), kJ P kd fn.results.toList s alts Γ H n = true → dB kd (gX kd sh s args w w1) (s.aS ++ mR T (kd.sz T)) B w1 fn.ntmps (N + n) H Γ.at a w' → a.defers = [] ∧ ∃ v, (results fn a.tmps).run P w' = .ok v w' ∧
           ∃ v', Ending.returned v = .returned v' ∧ WT kd.sig B (N + s.inc) w' ∧ Eff (dC B kd (bQ kd sh s args w) s.aS) w w' ∧ ∃ q ∈ alts, bD kd (bQ kd sh s args w) w' B (N + s.inc) q.1 v' ∧ dL kd (bQ kd sh s args w) w' B (N + s.inc) q.2 := fun Γ H n a w' hk' hs => by
         obtain ⟨q, hq, hk'⟩ := List.any_eq_true.1 hk'
         obtain ⟨r1, rp, v, r2, r3⟩ := Jl (show B ≤ w1.heap.size by omega) hs hk'
         have r1 : n ≤ s.inc := r1
         have hq' := List.all_eq_true.1 c10 q hq
         simp only [Bool.and_eq_true] at hq'
         refine ⟨hs.defers, v, r2, v, rfl, hs.wt.mono (by omega), ?_, q, hq, (gZ (rH := gX kd sh s args w w1) (cx := bQ kd sh s args w) rfl hq'.1 r3).mono (Eff.refl (fun _ _ _ => False) _) (by omega), fun i T' o t ht => ?_⟩
         · refine (hE1.mono fun _ _ _ _ h => h.elim).trans (hs.aS.mono fun b U j hb hc => ?_)
           rcases hc with hc | ⟨i, o, hm', rfl, rfl, jm⟩ | ⟨o, hm', rfl, jm⟩
           · exact .inl (Nat.le_trans hle hc)
           · rcases List.mem_append.1 hm' with hm' | hm'
             · have := List.all_eq_true.1 c8 _ hm'
               simp only [Lj, Nat.blt] at this
               have := Nat.le_of_ble_eq_true this
               refine .inr (.inl ⟨i, o, hm', ?_, ?_, jm⟩) <;> simp [gX, bQ, show ¬ i = 1000 by omega]
             · obtain ⟨o', -, e⟩ := List.mem_map.1 hm'
               cases e
               exact .inl (Nat.le_refl _)
           · rcases List.mem_append.1 hm' with hm' | hm'
             · exact .inr (.inr ⟨_, hm', rfl, jm⟩)
             · obtain ⟨o', -, e⟩ := List.mem_map.1 hm'
               cases e
         · have hp := List.all_eq_true.1 hq'.2 _ (Hm.at_mem ht)
           simp only [Bool.and_eq_true] at hp
           obtain ⟨i1, i2⟩ := sW hp.1 hps c6
           obtain ⟨k1, k2, k3, v, k4, k5⟩ := rp i T' o t ht
           have epi : (gX kd sh s args w w1).ps i = (bQ kd sh s args w).ps i := by simp [gX, bQ, show ¬ i = 1000 by omega]
           rw [epi] at k3 k4
           exact ⟨i2, k2, k3, v, k4, (J4 hp.2 hle k5).mono (Eff.refl (fun _ _ _ => False) _) (by omega)⟩
       obtain ⟨ops⟩ := ops
       simp only at hops
       subst hops
       refine calls_of_wp hf hbody (wp_seq (wp_region_lit (wpList_step fun K hK => ?_)))
       rw [if_pos (by simp [Region.wanted])]
       have hex : nL P { tmps := args ++ Array.replicate (fn.ntmps - args.size) undef, defers := [] } ⟨some d, .alloc T, ty, pos, after, none⟩ w (fun v w' => v = .pointer (some ⟨w.heap.size, 0, none⟩) ∧ w' = w1) := by
         cases hi : P.info? T with
         | none => rw [hi] at hz; cases hz
         | some i =>
           rw [hi] at hz
           simp only [Option.bind_some] at hz
           refine .inl ⟨_, _, ?_, rfl, rfl⟩
           rw [hw1]
           simp [execOp, Instr.alloc, zeroValue, typeInfo, hi, hz, newVar, newRow]
       refine hex.wp ?_
       rintro v2 w2 ⟨hv2, hw2⟩
       rw [hv2, hw2]
       refine hK _ _ ?_
       clear hex hK K hv2 hw2
       have st : dB kd (gX kd sh s args w w1) (s.aS ++ mR T (kd.sz T)) B w1 fn.ntmps (N + 0) s.pre (Gm.at ((d, some (none, .ptr T 0 (.par 1000))) :: rR s.ps 0)) (Act.put { tmps := args ++ Array.replicate (fn.ntmps - args.size) undef, defers := [] } (some d) (.pointer (some ⟨w.heap.size, 0, none⟩))) w1 := by
         have hda : @LT.lt Nat _ d (Act.mk (args ++ Array.replicate (fn.ntmps - args.size) undef) []).tmps.size := by
           rw [show (Act.mk (args ++ Array.replicate (fn.ntmps - args.size) undef) []).tmps.size = fn.ntmps by simp; omega]
           exact c3
         refine ⟨by rw [size_put]; simp; omega, rfl, aeR, Eff.refl _ _, fun t e he => ?_, fun i T' o t ht => ?_⟩
         · rw [Gm.at_set] at he
           split at he
           · rename_i htd
             subst htd
             cases he
             simp only [fq]
             rw [lL hda, if_pos rfl]
             refine ⟨w.heap.size, 0, by simp, c2, ⟨_, by omega, hblk, by rw [hsz]; simp only [List.size_toArray]; omega⟩, by simp [gX], by show w.heap.size < w1.heap.size; omega⟩
           · rename_i htd
             obtain ⟨j, u, g1, rfl, rfl⟩ := nP _ _ _ _ he
             obtain ⟨v, g2, g3⟩ := hps j u g1
             have : slot { tmps := args ++ Array.replicate (fn.ntmps - args.size) undef, defers := [] } (0 + j) = v := by
               unfold slot
               rw [Nat.zero_add, Array.getD_eq_getD_getElem?, Array.getElem?_append, if_pos (Array.getElem?_eq_some_iff.1 g2).1, g2]
               rfl
             simp only [fq]
             rw [lL hda, if_neg htd, this]
             exact TJ (List.all_eq_true.1 c6 _ (List.mem_of_getElem? g1)) hle (g3.mono hE1 (Nat.le_refl _))
         · have hp := List.all_eq_true.1 c7 _ (Hm.at_mem ht)
           simp only [Bool.and_eq_true] at hp
           obtain ⟨i1, i2⟩ := sW hp.1 hps c6
           obtain ⟨k1, k2, k3, v, k4, k5⟩ := hpre i T' o t ht
           have epi : (gX kd sh s args w w1).ps i = (bQ kd sh s args w).ps i := by simp [gX, bQ, show ¬ i = 1000 by omega]
           refine ⟨by rw [epi]; exact Nat.lt_of_lt_of_le k1 hle, k2, by rw [epi]; exact k3.mono hE1, v, by rw [epi]; exact hE1.cell k4 fun _ h => h, gZ (rH := bQ kd sh s args w) rfl hp.2 (k5.mono hE1 (Nat.le_refl _))⟩
       have HG : ∀ w', Eff (dC B kd (gX kd sh s args w w1) (s.aS ++ mR T (kd.sz T))) w1 w' → G w' := fun w' he => hS w1 w' hG1 (sH c9 rfl he)
       refine nE hsep (cx := gX kd sh s args w w1) (vU none (.inr rfl)) (vS none (.inr rfl)) hev rfl (by omega) HG hlim (fun Γ gs H n a w2 hk hs2 hg2 => ?_) more _ [] _ 0 _ w1 c11 st (fun t e he q hq => ?_)
       · obtain ⟨p1, p2⟩ := vE hs2 hg2
         exact RX vU vS hev hW (by omega) hm N hlim rest (gX kd sh s args w w1) hsep ⟨none, .inr rfl, rfl⟩ rfl HG _ _ _ _ _ _ _ _ _ hk p1 p2 (fun Γ H n a w' hk hs _ => fin Γ H n a w' hk hs) (fun i Γ H n a w' hk => by cases hk) (fun Γ H n a w' hk hs _ => fin Γ H n a w' hk hs)
       · rw [Gm.at_set] at he
         split at he
         · cases he; cases hq
         · obtain ⟨j, u, g1, rfl, rfl⟩ := nP _ _ _ _ he
           cases hq
     · cases h
   · cases h
 · cases h
theorem mW {alts : List (AT × Hm)} {ev : Ev} {sh : Sh} {ae : List (Nat × Nat)} {f : FuncId} {fn : Func} {s : aj} (hf : P.funcs[f]? = some fn) (h : mX P kd ev FT FA false ae fn s alts = true) (gH : ∀ f s, FT f = some s → au P f ∧ TC P kd sh B G f s) (qU : ∀ f q, FA f = some q → au P f ∧ aV P kd sh B G f q.1 q.2) (hev : rf ev sh G) (hS : Safe kd ae G) (hm : P.follows .mixedOrders = true) : aV P kd sh B G f s alts :=
 Wv hf h (fun y hy => by rcases hy with hy | rfl; · cases hy
                         exact gH) (fun y hy => by rcases hy with hy | rfl; · cases hy
                                                   exact qU) hev (fun hy => by cases hy) hS hm
end
section
open Go.RowKit
variable {sh : Sh} {B N T : Nat} {w w' : World}
def vO (l : List Int) : List (AT × Hm) := l.map fun ln => (.bX [], [((1, 118, 1), .aN .i64 ln)])
def mU (l : List Int) : List (AT × Hm) := l.map fun ln => (if ln = 5 then .bX [.ak ax [12], .bk true] else .bX [.ak ax [0], .bk false], [((1, 118, 1), .aN .i64 ln)])
def iO : aj := ⟨[.ptr 66 0 .env, .ptr 118 0 (.par 1)], .bX [], [.par 1 118 1, .par 1 118 10], 0, [((1, 118, 1), .aN .i64 1), ((1, 118, 17), .val 0)], []⟩
def kP : aj := ⟨[.ptr 66 0 .env, .ptr 118 0 (.par 1)], .bX [], [.par 1 118 1, .par 1 118 10], 0, [((1, 118, 1), .aN .i64 1), ((1, 118, 17), .val 0)], []⟩
def iV : aj := ⟨[.ptr 66 0 .env, .ptr 118 0 (.par 1)], .bX [], [.par 1 118 1, .par 1 118 10], 0, [((1, 118, 0), .aN .i64 24), ((1, 118, 1), .aN .i64 1), ((1, 118, 17), .val 0)], []⟩
def eB : List (Nat × Nat) := ae ++ [(137, 0), (137, 1), (137, 2), (137, 3), (137, 4), (137, 5), (137, 6)]
theorem GJ : mX Tryz.prog kd aQ (ah []) (aM [(132, iO, vO [23])]) false eB Tryz.f87 kP (mU [23]) = true := by kernel_rfl
theorem QO : mX Tryz.prog kd aQ (ah []) (aM [(87, kP, mU [23])]) false eB Tryz.f66 iV (mU [23]) = true := by kernel_rfl
theorem SF {G : World → Prop} (hev : aG sh G) (hS : Safe kd eB G) (hch : aV Tryz.prog kd sh B G 132 iO (vO [23])) : aV Tryz.prog kd sh B G 66 iV (mU [23]) :=
 mW Tryz.func66 QO jk (aL cZ (mW Tryz.func87 GJ jk (aL dD hch aJ) hev hS mixed) aJ) hev hS mixed
theorem Iw : mX Tryz.prog kd aQ (ah []) (aM [(132, iO, vO [2, 3, 4, 5, 10, 17])]) false eB Tryz.f87 kP (mU [2, 3, 4, 5, 10, 17]) = true := by kernel_rfl
theorem RP : mX Tryz.prog kd aQ (ah []) (aM [(87, kP, mU [2, 3, 4, 5, 10, 17])]) false eB Tryz.f66 iV (mU [2, 3, 4, 5, 10, 17]) = true := by kernel_rfl
theorem Rw {G : World → Prop} (hev : aG sh G) (hS : Safe kd eB G) (hch : aV Tryz.prog kd sh B G 132 iO (vO [2, 3, 4, 5, 10, 17])) : aV Tryz.prog kd sh B G 66 iV (mU [2, 3, 4, 5, 10, 17]) :=
 mW Tryz.func66 RP jk (aL cZ (mW Tryz.func87 Iw jk (aL dD hch aJ) hev hS mixed) aJ) hev hS mixed
theorem Jj : mX Tryz.prog kd aQ (ah []) (aM [(132, iO, vO [2, 4, 10, 17])]) false eB Tryz.f87 kP (mU [2, 4, 10, 17]) = true := by kernel_rfl
theorem Sg : mX Tryz.prog kd aQ (ah []) (aM [(87, kP, mU [2, 4, 10, 17])]) false eB Tryz.f66 iV (mU [2, 4, 10, 17]) = true := by kernel_rfl
theorem SY {G : World → Prop} (hev : aG sh G) (hS : Safe kd eB G) (hch : aV Tryz.prog kd sh B G 132 iO (vO [2, 4, 10, 17])) : aV Tryz.prog kd sh B G 66 iV (mU [2, 4, 10, 17]) :=
 mW Tryz.func66 Sg jk (aL cZ (mW Tryz.func87 Jj jk (aL dD hch aJ) hev hS mixed) aJ) hev hS mixed
end
end Go.Proofs.YtncnepmgmphanaaGreatDoor
