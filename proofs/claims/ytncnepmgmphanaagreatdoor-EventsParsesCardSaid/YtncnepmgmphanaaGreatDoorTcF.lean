/- A checker of the types of a function's code, sixth part: a region that draws its order. Plain; no condition. -/
import Derived.Test.YtncnepmgmphanaaGreatDoorTcE
import Derived.Orders
set_option linter.unusedVariables false
set_option linter.unusedSimpArgs false
set_option linter.unusedSectionVars false
namespace Go.Proofs.YtncnepmgmphanaaGreatDoor
open Go.RowKit
abbrev jv := List (Option kW × Nat × List EI)
def qJ (bG : jv) (j : Nat) : Option kW := (bG.getD j (none, 0, [])).1
def rV (bG : jv) (j : Nat) : Nat := (bG.getD j (none, 0, [])).2.1
def Y1 (bG : jv) (j : Nat) : List EI := (bG.getD j (none, 0, [])).2.2
def sQ (bG : jv) : Nat → Nat
 | 0 => 0
 | n + 1 => sQ bG n + rV bG n
def pend (bG : jv) (listed : Array Bool) : Nat → Nat
 | 0 => 0
 | n + 1 => pend bG listed n + (if listed[n]? = some true then 0 else rV bG n)
def kC (ops : List Oper) (j : Nat) : Option Nat := (ops[j]?).bind (·.dst)
def wr (ops : List Oper) (s : Nat) : Option Nat := (List.range ops.length).find? fun j => kC ops j == some s
def look (ops : List Oper) (Γ : Gm) (bG : jv) (i : Nat) : Lk := fun s => match wr ops s with
 | some j => if j < i then qJ bG j else Γ.at s
 | none => Γ.at s
def chain (lk : Lk) : Nat → Nat → List Nat
 | 0, s => [s]
 | n + 1, s => s :: (match lk s with
   | some (some q, _) => chain lk n q.1
   | _ => [])
def ah4 : Operand → Option Nat
 | .tmp t => some t
 | _ => none
def jw (lk : Lk) (g : Option (Nat × Bool)) (o : Oper) : List Nat := (LD g ++ o.op.operands.toList.filterMap ah4).flatMap (chain lk 4)
def jy (o : Oper) (j : Nat) : Bool := o.after.toList.any fun e => Region.binds .any e && decide (e.on = j)
def uJ (l : List Nat) (lk : Lk) : Lk := fun s => if l.contains s then lk s else none
def waits (ops : List Oper) (i : Nat) (o : Oper) (s : Nat) : Bool := match wr ops s with
 | none => true
 | some j => if j < i then jy o j else decide (j = i) || ((ops[j]?).map (jy · i)).getD false
def Gi (nt : Nat) (g : Option (Nat × Bool)) : Option Nat → Bool
 | some d => Nat.blt d nt && gne g d
 | none => true
def TU (i : Nat) : Option (Nat × Bool) → Bool
 | some (j, _) => decide (j < i)
 | none => true
def vT (H : Hm) (D : List EI) : Bool := H.all fun p => !nD D p.1.2.1 p.1.2.2
def isLast (ops : List Oper) (i : Nat) (o : Oper) : Bool := decide (i + 1 = ops.length) && (List.range i).all fun j => jy o j || (List.range i).any fun k => jy o k && ((ops[k]?).map (jy · j)).getD false
def xV (ops : List Oper) (bG : jv) (H : Hm) : Hm := match ops[ops.length - 1]? with
 | some o => if isLast ops (ops.length - 1) o then H.cut (Y1 bG (ops.length - 1)) else H
 | none => H
def Ar (P : Program) (kd : Kd) (ev : Ev) (H : Hm) (FT : FuncId → Option aj) (E : List EI) (nt : Nat) (ops : List Oper) (Γ : Gm) (bG : jv) (i : Nat) : Bool :=
 match ops[i]? with
 | none => false
 | some o => match ji ops o with
   | none => false
   | some g => match q9 P kd ev FT E H (fO (uJ (jw (look ops Γ bG i) g o) (look ops Γ bG i)) (gI (uJ (jw (look ops Γ bG i) g o) (look ops Γ bG i)) g)) o.op with
     | none => false
     | some (r, inc, D) => decide (Y1 bG i = D) && (isLast ops i o || vT H D) && decide (rV bG i = inc) && o.after.toList.all (fun e => !Region.binds .any e || decide (e.on < i)) && TU i o.guard && (jw (look ops Γ bG i) g o).all (waits ops i o) && Gi nt g o.dst &&
         decide (qJ bG i = (o.dst.bind fun _ => r.map fun t => (g, t)))
def uAt (kd : Kd) (ops : List Oper) (Γ : Gm) (bG : jv) (i : Nat) : Option ((Nat × Nat × Nat) × AT) :=
 match ops[i]? with
 | none => none
 | some o => match ji ops o with
   | some none => F4 kd (fO (uJ (jw (look ops Γ bG i) none o) (look ops Γ bG i)) (gI (uJ (jw (look ops Γ bG i) none o) (look ops Γ bG i)) none)) o.op
   | _ => none
def alive (bG : jv) (n i : Nat) (e : (Nat × Nat × Nat) × AT) : Bool := (List.range n).all fun j => Nat.beq j i || !nD (Y1 bG j) e.1.2.1 e.1.2.2
def Jz (kd : Kd) (ops : List Oper) (Γ : Gm) (bG : jv) (i : Nat) : Option ((Nat × Nat × Nat) × AT) :=
 match uAt kd ops Γ bG i with
 | some e => if alive bG ops.length i e then some e else none
 | none => none
def aeq (kd : Kd) (ops : List Oper) (Γ : Gm) (bG : jv) (H : Hm) : Hm :=
 (List.range ops.length).foldl (fun H i => match Jz kd ops Γ bG i with | some e => e :: H | none => H) (xV ops bG H)
def strip : Option kW → Option kW
 | some (some _, _) => none
 | e => e
def I5 (P : Program) (kd : Kd) (ev : Ev) (H : Hm) (FT : FuncId → Option aj) (E : List EI) (nt : Nat) (ops : List Oper) (Γ : Gm) (bG : jv) : Bool :=
 (List.range ops.length).all (fun i => match kC ops i with | some d => decide (wr ops d = some i) | none => true) && (List.range ops.length).all (Ar P kd ev H FT E nt ops Γ bG)
def OV (ops : List Oper) (Γ : Gm) (bG : jv) : Gm :=
 (List.range ops.length).foldl (fun Γ j => match kC ops j with | some d => (d, strip (qJ bG j)) :: Γ | none => Γ) Γ
variable {P : Program} {kd : Kd} {cx : Cx} {w w' w0 : World} {B N N' : Nat} {E : List EI} {FT : FuncId → Option aj} {G : World → Prop} {a : Act} {nt : Nat}
variable {ops : List Oper} {Γ : Gm} {bG : jv} {ev : Ev} {H : Hm}
theorem IL {s j : Nat} (h : wr ops s = some j) : j < ops.length ∧ kC ops j = some s := by
 unfold wr at h
 have h1 := List.mem_of_find?_eq_some h
 have h2 := List.find?_some h
 exact ⟨by simpa using h1, by simpa using h2⟩
theorem Ow {g : Option (Nat × Bool)} {d : Nat} (h : Gi nt g (some d) = true) : d < nt ∧ gne g d = true := by
 simp only [Gi, Bool.and_eq_true, Nat.blt] at h
 exact ⟨Nat.le_of_ble_eq_true h.1, h.2⟩
def F9 (ops : List Oper) (listed : Array Bool) : Prop := ∃ i o, ops[i]? = some o ∧ isLast ops i o = true ∧ listed[i]? = some true
theorem Tz {i T o : Nat} {t : AT} (h : (xV ops bG H).at (i, T, o) = some t) : H.at (i, T, o) = some t := by
 unfold xV at h
 split at h
 · split at h
   · exact (Hm.sS h).1
   · exact h
 · exact h
structure Jd (kd : Kd) (cx : Cx) (E : List EI) (B : Nat) (w0 : World) (nt N : Nat) (H : Hm) (ops : List Oper) (Γ : Gm) (bG : jv) (listed : Array Bool) (a : Act) (w : World) : Prop where
 size : a.tmps.size = nt
 defers : a.defers = []
 wt : WT kd.sig B N w
 aS : Eff (dC B kd cx E) w0 w
 hm : ¬ F9 ops listed → dL kd cx w B N H
 hm2 : dL kd cx w B N (xV ops bG H)
 upd : ∀ (i : Nat) (e : (Nat × Nat × Nat) × AT), listed[i]? = some true → Jz kd ops Γ bG i = some e → ng kd cx w B N e
 rM : listed.size = ops.length
 closed : ∀ (j : Nat) (o : Oper), ops[j]? = some o → listed[j]? = some true → ∀ k, jy o k = true → listed[k]? = some true
 done : ∀ (t j : Nat), wr ops t = some j → listed[j]? = some true → ∀ e, qJ bG j = some e → fq kd cx a w B N e t
 old : ∀ (t : Nat), (∀ (j : Nat), wr ops t = some j → listed[j]? = some false) → ∀ e, Γ.at t = some e → fq kd cx a w B N e t
theorem uM {o : Oper} {j : Nat} : jy o j = true ↔ ∃ e ∈ o.after, Region.binds .any e = true ∧ e.on = j := by
 unfold jy
 simp only [List.any_eq_true, Bool.and_eq_true, decide_eq_true_eq, Array.mem_toList_iff]
theorem pX {listed : Array Bool} {n j : Nat} (hn : listed.size = n) (hj : j < n) : listed[j]? = some true ∨ listed[j]? = some false := by
 rw [Array.getElem?_eq_getElem (by omega)]
 cases listed[j] <;> simp
theorem zR {listed : Array Bool} (hn : listed.size = ops.length) {i : Nat} : i ∈ Region.ready .any ops.toArray listed ↔ listed[i]? = some false ∧ ∃ o, ops[i]? = some o ∧ ∀ k, jy o k = true → listed[k]? = some true := by
 unfold Region.ready
 simp only [List.mem_filter, List.mem_range, Bool.and_eq_true, Bool.not_eq_true', List.size_toArray, List.getElem?_toArray, Array.getD_eq_getD_getElem?]
 constructor
 · rintro ⟨hi, h1, h2⟩
   refine ⟨?_, ?_⟩
   · rcases pX hn hi with h | h
     · rw [h] at h1; cases h1
     · exact h
   · rw [List.getElem?_eq_getElem hi] at h2 ⊢
     refine ⟨_, rfl, fun k hk => ?_⟩
     obtain ⟨e, he, hb, rfl⟩ := uM.1 hk
     simp only [Option.map_some, Option.getD_some, Array.all_eq_true_iff_forall_mem] at h2
     have := h2 e he
     rw [hb] at this
     cases hx : listed[e.on]? with
     | none => rw [hx] at this; simp at this
     | some b => rw [hx] at this; simp at this; rw [this]
 · rintro ⟨h1, o, ho, h2⟩
   have hi := (List.getElem?_eq_some_iff.1 ho).1
   refine ⟨hi, by rw [h1]; rfl, ?_⟩
   rw [ho]
   simp only [Option.map_some, Option.getD_some, Array.all_eq_true_iff_forall_mem]
   intro e he
   cases hb : Region.binds .any e with
   | false => rfl
   | true => rw [h2 e.on (uM.2 ⟨e, he, hb, rfl⟩)]; rfl
theorem iL {listed : Array Bool} {i j : Nat} (hi : i < listed.size) : (listed.setIfInBounds i true)[j]? = if j = i then some true else listed[j]? := by
 rw [Array.getElem?_setIfInBounds]
 by_cases h : j = i
 · subst h; simp [hi]
 · simp [h, Ne.symm h]
theorem wm {i : Nat} {o : Oper} (ho : ops[i]? = some o) (h : Ar P kd ev H FT E nt ops Γ bG i = true) : ∃ g r D, ji ops o = some g ∧
   q9 P kd ev FT E H (fO (uJ (jw (look ops Γ bG i) g o) (look ops Γ bG i)) (gI (uJ (jw (look ops Γ bG i) g o) (look ops Γ bG i)) g)) o.op = some (r, rV bG i, D) ∧ Y1 bG i = D ∧ (isLast ops i o || vT H D) = true ∧
   (∀ k, jy o k = true → k < i) ∧ (∀ s ∈ jw (look ops Γ bG i) g o, waits ops i o s = true) ∧ Gi nt g o.dst = true ∧ qJ bG i = (o.dst.bind fun _ => r.map fun t => (g, t)) := by
 unfold Ar at h
 rw [ho] at h
 simp only at h
 split at h
 · cases h
 · rename_i g hg
   split at h
   · cases h
   · rename_i r inc D hop
     simp only [Bool.and_eq_true, decide_eq_true_eq, List.all_eq_true] at h
     obtain ⟨⟨⟨⟨⟨⟨⟨hd, h0⟩, rfl⟩, h2⟩, h3⟩, h4⟩, h5⟩, h6⟩ := h
     refine ⟨g, r, D, hg, hop, hd, h0, fun k hk => ?_, h4, h5, h6⟩
     obtain ⟨e, he, hb, rfl⟩ := uM.1 hk
     have := h2 e (by simpa using he)
     rw [hb] at this
     simpa using this
theorem abW {lk : Lk} {g : Option (Nat × Bool)} {o : Oper} {q : Nat × Bool} (h : g = some q) : q.1 ∈ jw lk g o := by
 subst h
 unfold jw
 rw [List.mem_flatMap]
 exact ⟨q.1, by simp [LD], by simp [chain]⟩
theorem Jd.lk {listed : Array Bool} (h : Jd kd cx E B w0 nt N H ops Γ bG listed a w) {i : Nat} {o : Oper} {l : List Nat} (ho : ops[i]? = some o) (hi : listed[i]? = some false) (hr : ∀ k, jy o k = true → listed[k]? = some true) (hw : ∀ s ∈ l, waits ops i o s = true) :
   wE kd cx a w B N (uJ l (look ops Γ bG i)) := by
 intro t e he
 unfold uJ at he
 split at he
 · rename_i hm
   have hwt := hw t (by simpa using hm)
   unfold waits at hwt
   unfold look at he
   cases hx : wr ops t with
   | none =>
     rw [hx] at he
     exact h.old t (fun j hj => by rw [hx] at hj; cases hj) e he
   | some j =>
     rw [hx] at he hwt
     simp only at he hwt
     have hj := (IL hx).1
     split at he
     · rename_i hlt
       rw [if_pos hlt] at hwt
       exact h.done t j hx (hr j hwt) e he
     · rename_i hlt
       rw [if_neg hlt] at hwt
       refine h.old t (fun j' hj' => ?_) e he
       rw [hx] at hj'
       cases hj'
       rcases pX h.rM hj with hl | hl
       · simp only [Bool.or_eq_true, decide_eq_true_eq] at hwt
         rcases hwt with rfl | hwt
         · exact hi
         · rw [List.getElem?_eq_getElem hj] at hwt
           have := h.closed j _ (List.getElem?_eq_getElem hj) hl i (by simpa using hwt)
           rw [hi] at this
           cases this
       · exact hl
 · cases he
theorem QE (h : ∀ i, i < ops.length → ∀ d, kC ops i = some d → wr ops d = some i) {i j d : Nat} (hi : i < ops.length) (h1 : kC ops i = some d) (h2 : wr ops d = some j) : j = i := by
 rw [h i hi d h1] at h2; cases h2; rfl
theorem Jd.step {listed : Array Bool} (h : Jd kd cx E B w0 nt N H ops Γ bG listed a w) (hu : ∀ i, i < ops.length → ∀ d, kC ops i = some d → wr ops d = some i) (hpl : ∀ t e, Γ.at t = some e → e.1 = none) (D8 : ∀ i, i < ops.length → Ar P kd ev H FT E nt ops Γ bG i = true)
   {i : Nat} {o : Oper} (ho : ops[i]? = some o) (hi : listed[i]? = some false) (hr : ∀ k, jy o k = true → listed[k]? = some true) {g : Option (Nat × Bool)} {r : Option AT} {v : Value}
   (hd : Gi nt g o.dst = true) (hent : qJ bG i = (o.dst.bind fun _ => r.map fun t => (g, t))) (h1 : WT kd.sig B N' w') (h2 : Eff (dC B kd cx E) w0 w') {Ch : Nat → TypeId → Nat → Prop} (h3 : Eff Ch w w') (hN : N ≤ N') (hH : ¬ F9 ops (listed.setIfInBounds i true) → dL kd cx w' B N' H) (hH2 : dL kd cx w' B N' (xV ops bG H)) (hup : ∀ (j : Nat) (e : (Nat × Nat × Nat) × AT), (listed.setIfInBounds i true)[j]? = some true → Jz kd ops Γ bG j = some e → ng kd cx w' B N' e)
   (hw : (∀ q, g = some q → slot a q.1 = .bool q.2) → ∀ t, r = some t → bD kd cx w' B N' t v) (hn : ¬ (∀ q, g = some q → slot a q.1 = .bool q.2) → v = undef) :
   Jd kd cx E B w0 nt N' H ops Γ bG (listed.setIfInBounds i true) (a.put o.dst v) w' := by
 have hil := (List.getElem?_eq_some_iff.1 ho).1
 have his : i < listed.size := by rw [h.rM]; exact hil
 have hdi : kC ops i = o.dst := by unfold kC; rw [ho]; rfl
 -- a slot that another operation has written, or none: as it was
 have keep : ∀ (t : Nat) (e : kW), fq kd cx a w B N e t → o.dst ≠ some t → (∀ q, e.1 = some q → o.dst ≠ some q.1) → fq kd cx (a.put o.dst v) w' B N' e t := fun t e hs ht hq => by
   have hs' := hs.mono h3 hN
   cases hdst : o.dst with
   | none => exact hs'
   | some d =>
     rw [hdst] at hd ht hq
     have hd := Ow hd
     exact hs'.put (by rw [h.size]; exact hd.1) (fun e => ht (by rw [e])) fun q hq' e' => hq q hq' (by rw [e'])
 refine ⟨size_put.trans h.size, Fj.trans h.defers, h1, h2, hH, hH2, hup, by simpa using h.rM, fun j o' ho' hl k hk => ?_, fun t j hj hl e he => ?_, fun t ht e he => ?_⟩
 · rw [iL his] at hl ⊢
   split
   · rfl
   · split at hl
     · rename_i e
       subst e
       rw [ho] at ho'
       cases ho'
       exact hr k hk
     · exact h.closed j o' ho' hl k hk
 · rw [iL his] at hl
   obtain ⟨hjl, hjd⟩ := IL hj
   by_cases hji : j = i
   · subst hji
     rw [hent] at he
     rw [hdi] at hjd
     rw [hjd] at he hd
     have hd := Ow hd
     simp only [Option.bind_some] at he
     cases r with
     | none => cases he
     | some u =>
       cases he
       rw [hjd]
       exact M7 (by rw [h.size]; exact hd.1) (abn hd.2) (fun hh => hw hh u rfl) hn
   · rw [if_neg hji] at hl
     refine keep t e (h.done t j hj hl e he) (fun hx => hji ?_) fun q hq hx => ?_
     · exact QE hu hil (by rw [hdi]; exact hx) hj
     · have hjo := List.getElem?_eq_getElem hjl
       obtain ⟨g', r', D', k1, k2, lM, k0, k3, k4, k5, k6⟩ := wm hjo (D8 j hjl)
       have hg' : g' = some q := by
         rw [he] at k6
         cases hdj : (ops[j]).dst with
         | none => rw [hdj] at k6; cases k6
         | some d =>
           rw [hdj] at k6
           cases r' with
           | none => cases k6
           | some u => cases k6; exact hq
       have hwq := k4 q.1 (abW hg')
       have hwi := hu i hil q.1 (by rw [hdi]; exact hx)
       unfold waits at hwq
       rw [hwi] at hwq
       simp only at hwq
       have hlt : i < j := by
         unfold ji at k1
         split at k1
         · cases k1; cases hg'
         · rename_i jg b hgd
           split at k1
           · rename_i d hdd
             cases k1
             cases hg'
             have e1 : kC ops jg = some d := hdd
             have hjg : jg < ops.length := by
               rcases Nat.lt_or_ge jg ops.length with hh | hh
               · exact hh
               · unfold kC at e1; rw [List.getElem?_eq_none hh] at e1; cases e1
             have := QE hu hjg e1 hwi
             subst this
             have hc := D8 j hjl
             unfold Ar at hc
             rw [hjo] at hc
             simp only at hc
             split at hc
             · cases hc
             · split at hc
               · cases hc
               · simp only [Bool.and_eq_true] at hc
                 have := hc.1.1.1.2
                 rw [hgd] at this
                 simpa [TU] using this
           · cases k1
       rw [if_pos hlt] at hwq
       have := h.closed j _ hjo hl i hwq
       rw [hi] at this
       cases this
 · have hold : ∀ j, wr ops t = some j → listed[j]? = some false := fun j hj => by
     have := ht j hj
     rw [iL his] at this
     split at this
     · cases this
     · exact this
   refine keep t e (h.old t hold e he) (fun hx => ?_) fun q hq => ?_
   · have := ht i (hu i hil t (by rw [hdi]; exact hx))
     rw [iL his, if_pos rfl] at this
     cases this
   · rw [hpl t e he] at hq
     cases hq
theorem IP {t : Nat} {e : kW} : ∀ (l : List Nat) (Γ : Gm), Gm.at (l.foldl (fun Γ j => match kC ops j with | some d => (d, strip (qJ bG j)) :: Γ | none => Γ) Γ) t = some e →
   (∃ j ∈ l, kC ops j = some t ∧ strip (qJ bG j) = some e) ∨ (Γ.at t = some e ∧ ∀ j ∈ l, kC ops j ≠ some t)
 | [], Γ, h => .inr ⟨h, by simp⟩
 | j :: l, Γ, h => by
   simp only [List.foldl_cons] at h
   rcases IP l _ h with ⟨j', h1, h2⟩ | ⟨h1, h2⟩
   · exact .inl ⟨j', List.mem_cons_of_mem _ h1, h2⟩
   · cases hd : kC ops j with
     | none =>
       rw [hd] at h1
       refine .inr ⟨h1, fun j' hj' => ?_⟩
       rcases List.mem_cons.1 hj' with rfl | hj'
       · rw [hd]; simp
       · exact h2 j' hj'
     | some d =>
       rw [hd] at h1
       simp only [Gm.at_set] at h1
       split at h1
       · rename_i hc
         subst hc
         exact .inl ⟨j, by simp, hd, h1⟩
       · rename_i hc
         refine .inr ⟨h1, fun j' hj' => ?_⟩
         rcases List.mem_cons.1 hj' with rfl | hj'
         · intro hx
           rw [hd] at hx
           cases hx
           exact hc rfl
         · exact h2 j' hj'
theorem Tj {listed : Array Bool} {i : Nat} (hi : i < listed.size) : ∀ n, n ≤ i → pend bG (listed.setIfInBounds i true) n = pend bG listed n
 | 0, _ => rfl
 | n + 1, h => by
   simp only [pend]
   have e1 : (listed.setIfInBounds i true)[n]? = listed[n]? := by rw [iL hi, if_neg (show ¬ n = i by omega)]
   rw [Tj hi n (by omega), e1]
theorem ML {listed : Array Bool} {i : Nat} (hi : i < listed.size) (hl : listed[i]? = some false) : ∀ n, i < n → pend bG (listed.setIfInBounds i true) n + rV bG i = pend bG listed n
 | 0, h => by omega
 | n + 1, h => by
   simp only [pend]
   by_cases e : i = n
   · subst e
     rw [Tj hi i (Nat.le_refl _), iL hi, if_pos rfl, hl]
     simp
   · have e1 : (listed.setIfInBounds i true)[n]? = listed[n]? := by rw [iL hi, if_neg (show ¬ n = i from fun h' => e h'.symm)]
     rw [e1]
     have := ML hi hl n (by omega)
     omega
theorem JF {listed : Array Bool} : ∀ n, (∀ j, j < n → listed[j]? = some false) → pend bG listed n = sQ bG n
 | 0, _ => rfl
 | n + 1, h => by
   simp only [pend, sQ]
   rw [JF n (fun j hj => h j (by omega)), h n (by omega)]
   simp
theorem Bb {D : List EI} (h : vT H D = true) : ∀ i T o t, H.at (i, T, o) = some t → nD D T o = false := fun i T o t ht => by
 unfold vT at h
 rw [List.all_eq_true] at h
 have := h _ (Hm.at_mem ht)
 simpa using this
theorem ng.step {e : (Nat × Nat × Nat) × AT} {D : List EI} (h : ng kd cx w B N e) (hD : D.all (lU kd E) = true) (hE : Eff (dC B kd cx D) w w') (hN : N ≤ N') (hk : nD D e.1.2.1 e.1.2.2 = false) : ng kd cx w' B N' e := by
 have h0 : dL kd cx w B N [] := fun _ _ _ _ h => by cases h
 have h1 : dL kd cx w B N [e] := h0.cons h
 have h2 := h1.step hD hE hN (fun i T o t ht => by
   obtain ⟨⟨j, U, q⟩, u⟩ := e
   simp only [Hm.at] at ht
   cases hb : (Nat.beq j i && Nat.beq U T && Nat.beq q o) with
   | true =>
     simp only [Bool.and_eq_true] at hb
     rw [← Nat.eq_of_beq_eq_true hb.1.2, ← Nat.eq_of_beq_eq_true hb.2]
     exact hk
   | false => rw [hb] at ht; cases ht)
 obtain ⟨⟨j, U, q⟩, u⟩ := e
 exact h2 j U q u (by simp [Hm.at])
theorem ng.more {e : (Nat × Nat × Nat) × AT} (h : ng kd cx w B N e) (hN : N ≤ N') : ng kd cx w B N' e := by
 obtain ⟨k1, k2, k3, v, k4, k5⟩ := h
 exact ⟨k1, k2, k3, v, k4, k5.mono (Eff.refl (fun _ _ _ => False) w) hN⟩
theorem Ot {i : Nat} {e : (Nat × Nat × Nat) × AT} (h : Jz kd ops Γ bG i = some e) : uAt kd ops Γ bG i = some e ∧ ∀ j, j < ops.length → j ≠ i → nD (Y1 bG j) e.1.2.1 e.1.2.2 = false := by
 unfold Jz at h
 split at h
 · rename_i e' he
   split at h
   · rename_i ha
     cases h
     refine ⟨he, fun j hj hji => ?_⟩
     unfold alive at ha
     rw [List.all_eq_true] at ha
     have := ha j (by simpa using hj)
     simp only [Bool.or_eq_true, Bool.not_eq_true'] at this
     rcases this with h1 | h1
     · exact absurd (Nat.eq_of_beq_eq_true h1) hji
     · exact h1
   · cases h
 · cases h
theorem Uh : ∀ (l : List Nat) (H : Hm), dL kd cx w B N H → (∀ i ∈ l, ∀ e, Jz kd ops Γ bG i = some e → ng kd cx w B N e) → dL kd cx w B N (l.foldl (fun H i => match Jz kd ops Γ bG i with | some e => e :: H | none => H) H)
 | [], H, h, _ => h
 | i :: l, H, h, hu => by
   simp only [List.foldl_cons]
   refine Uh l _ ?_ (fun j hj => hu j (List.mem_cons_of_mem _ hj))
   split
   · rename_i e he
     exact h.cons (hu i (by simp) e he)
   · exact h
theorem Za (gH : ∀ f s, FT f = some s → au P f ∧ TC P kd cx.sh B G f s) (hev : rA ev cx G) (hb : cx.base = w0.heap.size) (hB : B ≤ w0.heap.size) (HG : ∀ w, Eff (dC B kd cx E) w0 w → G w) {Q : Exit → Act → World → Prop}
   {M : Nat} (hlim : M ≤ 68719476736) (hu : ∀ i, i < ops.length → ∀ d, kC ops i = some d → wr ops d = some i) (hpl : ∀ t e, Γ.at t = some e → e.1 = none) (D8 : ∀ i, i < ops.length → Ar P kd ev H FT E nt ops Γ bG i = true)
   (hQ : ∀ a w, dB kd cx E B w0 nt M (aeq kd ops Γ bG H) (OV ops Γ bG).at a w → Q .normal a w) : ∀ (fuel : Nat) (listed : Array Bool) (a : Act) (w : World) (N : Nat), listed.toList.count false ≤ fuel → N + pend bG listed ops.length ≤ M → Jd kd cx E B w0 nt N H ops Γ bG listed a w → wpAny P .any ops.toArray Q fuel listed a w := by
 have fin : ∀ (listed : Array Bool) (a : Act) (w : World) (N : Nat), N + pend bG listed ops.length ≤ M → Jd kd cx E B w0 nt N H ops Γ bG listed a w → (∀ j, j < ops.length → listed[j]? = some true) → Q .normal a w := fun listed a w N hM h hall => by
   have hNM : N ≤ M := by omega
   refine hQ a w ⟨h.size, h.defers, h.wt.mono hNM, h.aS, fun t e he => fq.mono ?_ (Eff.refl (fun _ _ _ => False) w) hNM, Uh _ _ (fun i T o t ht => by
     obtain ⟨k1, k2, k3, v, k4, k5⟩ := h.hm2 i T o t ht
     exact ⟨k1, k2, k3, v, k4, k5.mono (Eff.refl (fun _ _ _ => False) w) hNM⟩) (fun i hi e he => (h.upd i e (hall i (by simpa using hi)) he).more hNM)⟩
   rcases IP _ _ he with ⟨j, hj, h1, h2⟩ | ⟨h1, h2⟩
   · have hjl : j < ops.length := by simpa using hj
     refine h.done t j (hu j hjl t h1) (hall j hjl) e ?_
     cases hx : qJ bG j with
     | none => rw [hx] at h2; cases h2
     | some e' =>
       rw [hx] at h2
       obtain ⟨g, u⟩ := e'
       cases g with
       | none => exact h2
       | some q => cases h2
   · refine h.old t (fun j hj => ?_) e h1
     obtain ⟨h3, h4⟩ := IL hj
     exact absurd h4 (h2 j (by simpa using h3))
 intro fuel
 induction fuel with
 | zero =>
   intro listed a w N hc hM h
   have hall : ∀ j, j < ops.length → listed[j]? = some true := fun j hj => by
     rcases pX h.rM hj with hl | hl
     · exact hl
     · have : false ∈ listed.toList := by rw [Array.mem_toList_iff]; exact Array.mem_of_getElem? hl
       have := List.count_pos_iff.2 this
       omega
   refine ⟨?_, fin listed a w N hM h hall⟩
   rw [List.eq_nil_iff_forall_not_mem]
   intro i hi
   obtain ⟨h1, o, ho, -⟩ := (zR h.rM).1 hi
   rw [hall i (List.getElem?_eq_some_iff.1 ho).1] at h1
   cases h1
 | succ fuel ih =>
   intro listed a w N hc hM h
   refine ⟨fun hr => fin listed a w N hM h fun j => ?_, fun i hi => ?_⟩
   · induction j using Nat.strongRecOn with
     | ind j ihj =>
       intro hj
       rcases pX h.rM hj with hl | hl
       · exact hl
       · have hjo := List.getElem?_eq_getElem hj
         obtain ⟨g', r', D', k1, k2, lM, k0, k3, k4, k5, k6⟩ := wm hjo (D8 j hj)
         have : j ∈ Region.ready .any ops.toArray listed := (zR h.rM).2 ⟨hl, _, hjo, fun k hk => ihj k (k3 k hk) (by have := k3 k hk; omega)⟩
         rw [hr] at this
         cases this
   · obtain ⟨hl, o, ho, hr⟩ := (zR h.rM).1 hi
     have hil := (List.getElem?_eq_some_iff.1 ho).1
     have his : i < listed.size := by rw [h.rM]; exact hil
     obtain ⟨g, r, D, k1, k2, lM, k0, k3, k4, k5, k6⟩ := wm ho (D8 i hil)
     have hcnt : (listed.setIfInBounds i true).toList.count false ≤ fuel := by
       rw [Array.toList_setIfInBounds, List.count_set (by simpa using his)]
       have hv : listed.toList[i]'(by simpa using his) = false := by
         rw [Array.getElem?_eq_getElem his] at hl
         simpa using hl
       rw [hv]
       have : 0 < listed.toList.count false := List.count_pos_iff.2 (by rw [Array.mem_toList_iff]; exact Array.mem_of_getElem? hl)
       show _ - 1 + 0 ≤ fuel
       omega
     have hlk := h.lk ho hl hr k4
     have hnl : ¬ F9 ops listed := by
       rintro ⟨l, o', ho', hla, hll⟩
       unfold isLast at hla
       simp only [Bool.and_eq_true, decide_eq_true_eq, List.all_eq_true, List.mem_range] at hla
       have hne : i ≠ l := fun e => by subst e; rw [hl] at hll; cases hll
       have hx := hla.2 i (by omega)
       simp only [Bool.or_eq_true, List.any_eq_true, List.mem_range, Bool.and_eq_true] at hx
       have : listed[i]? = some true := by
         rcases hx with hx | ⟨k, hk, hx1, hx2⟩
         · exact h.closed l o' ho' hll i hx
         · cases hok : ops[k]? with
           | none => rw [hok] at hx2; cases hx2
           | some ok =>
             rw [hok] at hx2
             exact h.closed k ok hok (h.closed l o' ho' hll k hx1) i (by simpa using hx2)
       rw [hl] at this
       cases this
     have WU := h.hm hnl
     have hpd := ML (bG := bG) his hl ops.length hil
     have hsz := h.aS.size
     unfold wpOp
     rw [List.getElem?_toArray, ho]
     simp only
     split
     · rename_i hw
       have hg1 := (iM k1).1 hw
       obtain ⟨hD, hout⟩ := Kw k2 gH hev WU (fun K' x t hx hk => AL hlk (tN hlk hg1) K' x t hx hk) h.wt h.aS (by omega) (by omega) (HG w h.aS) (by omega)
       refine .inl (hout.wp fun v w' hl' => ?_)
       obtain ⟨⟨l1, l2, l3, l4⟩, l5⟩ := hl'
       have hup : ∀ (j : Nat) (e : (Nat × Nat × Nat) × AT), (listed.setIfInBounds i true)[j]? = some true → Jz kd ops Γ bG j = some e → ng kd cx w' B (N + rV bG i) e := fun j e hj he => by
         obtain ⟨u1, u2⟩ := Ot he
         by_cases hji : j = i
         · subst hji
           unfold uAt at u1
           rw [ho] at u1
           simp only [k1] at u1
           cases g with
           | none => exact l5 e u1
           | some q => cases u1
         · rw [iL his, if_neg hji] at hj
           exact (h.upd j e hj he).step hD l3 (Nat.le_add_right _ _) (by have := u2 i hil (fun e => hji e.symm); rw [lM] at this; exact this)
       have hA : ¬ F9 ops (listed.setIfInBounds i true) → dL kd cx w' B (N + rV bG i) H := fun akR => by
         have hnot : isLast ops i o = false := by
           cases hx : isLast ops i o with
           | false => rfl
           | true => exact absurd ⟨i, o, ho, hx, by rw [iL his, if_pos rfl]⟩ akR
         rw [hnot, Bool.false_or] at k0
         exact WU.step hD l3 (Nat.le_add_right _ _) (Bb k0)
       have hA2 : dL kd cx w' B (N + rV bG i) (xV ops bG H) := by
         cases hx : isLast ops i o with
         | false =>
           rw [hx, Bool.false_or] at k0
           exact h.hm2.step hD l3 (Nat.le_add_right _ _) (fun i T o t ht => Bb k0 i T o t (Tz ht))
         | true =>
           have akI : i = ops.length - 1 := by
             unfold isLast at hx
             simp only [Bool.and_eq_true, decide_eq_true_eq] at hx
             omega
           have hcut : xV ops bG H = H.cut D := by
             unfold xV
             rw [← akI, ho]
             simp only [hx, if_true]
             rw [lM]
           rw [hcut]
           exact WU.cut hD l3 (Nat.le_add_right _ _)
       exact ih _ _ _ (N + rV bG i) hcnt (by omega) (h.step hu hpl D8 ho hl hr k5 k6 l1 l2 l3 (Nat.le_add_right _ _) hA hA2 hup (fun _ => l4) (fun hn => absurd hg1 hn))
     · rename_i hw
       have hg1 := fun hh => hw ((iM k1).2 hh)
       exact ih _ _ _ N hcnt (by omega) (h.step hu hpl D8 ho hl hr k5 k6 h.wt h.aS (Eff.refl (fun _ _ _ => False) _) (Nat.le_refl _) (fun _ => WU) h.hm2 (fun j e hj he => by
         obtain ⟨u1, u2⟩ := Ot he
         by_cases hji : j = i
         · subst hji
           unfold uAt at u1
           rw [ho] at u1
           simp only [k1] at u1
           cases g with
           | none => exact absurd (by simp) hg1
           | some q => cases u1
         · rw [iL his, if_neg hji] at hj
           exact h.upd j e hj he) (fun hh => absurd hh hg1) (fun _ => rfl))
theorem uE (gH : ∀ f s, FT f = some s → au P f ∧ TC P kd cx.sh B G f s) (hev : rA ev cx G) (hb : cx.base = w0.heap.size) (hB : B ≤ w0.heap.size) (HG : ∀ w, Eff (dC B kd cx E) w0 w → G w) (hm : P.follows .mixedOrders = true) (hlim : N + sQ bG ops.length ≤ 68719476736) {Q : Exit → Act → World → Prop} {id : Nat}
   (h : I5 P kd ev H FT E nt ops Γ bG = true) (hs : dB kd cx E B w0 nt N H Γ.at a w) (hpl : ∀ t e, Γ.at t = some e → e.1 = none) (hQ : ∀ a w, dB kd cx E B w0 nt (N + sQ bG ops.length) (aeq kd ops Γ bG H) (OV ops Γ bG).at a w → (∀ t e, (OV ops Γ bG).at t = some e → e.1 = none) → Q .normal a w) : (Code.region id ops.toArray true).wp P Q a w := by
 simp only [I5, Bool.and_eq_true, List.all_eq_true, List.mem_range] at h
 obtain ⟨h2, h3⟩ := h
 have hend : ∀ t e, (OV ops Γ bG).at t = some e → e.1 = none := fun t e he => by
   rcases IP _ _ he with ⟨j, -, -, h4⟩ | ⟨h4, -⟩
   · cases hx : qJ bG j with
     | none => rw [hx] at h4; cases h4
     | some e' =>
       rw [hx] at h4
       obtain ⟨g, u⟩ := e'
       cases g with
       | none => cases h4; rfl
       | some q => cases h4
   · exact hpl t e h4
 refine wp_region_any hm (Za gH hev hb hB HG hlim (fun i hi d hd => ?_) hpl h3 (fun a w h => hQ a w h hend) _ _ _ _ N (by simp) (by rw [JF _ (fun j hj => by simp [Array.getElem?_replicate, hj])]; exact Nat.le_refl _) ⟨hs.size, hs.defers, hs.wt.drew, hs.aS.drew, fun _ i T o t ht => (by
     obtain ⟨k1, k2, k3, v, k4, k5⟩ := hs.hm i T o t ht
     exact ⟨k1, k2, k3.mono ((Eff.refl (fun _ _ _ => False) w).drew), v, k4, k5.mono ((Eff.refl (fun _ _ _ => False) w).drew) (Nat.le_refl _)⟩), fun i T o t ht => (by
     obtain ⟨k1, k2, k3, v, k4, k5⟩ := hs.hm i T o t (Tz ht)
     exact ⟨k1, k2, k3.mono ((Eff.refl (fun _ _ _ => False) w).drew), v, k4, k5.mono ((Eff.refl (fun _ _ _ => False) w).drew) (Nat.le_refl _)⟩), fun j e hl _ => (by simp [Array.getElem?_replicate] at hl), by simp, fun j o _ hl => ?_, fun t j hj hl => ?_, fun t _ e he => (hs.lk t e he).mono ((Eff.refl (fun _ _ _ => False) w).drew) (Nat.le_refl _)⟩)
 · have := h2 i hi
   rw [hd] at this
   simpa using this
 · simp [Array.getElem?_replicate] at hl
 · simp [Array.getElem?_replicate] at hl
end Go.Proofs.YtncnepmgmphanaaGreatDoor
