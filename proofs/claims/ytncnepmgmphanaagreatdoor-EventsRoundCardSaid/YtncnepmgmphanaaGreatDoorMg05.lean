/- A checker of the types of a function's code, seventh part: the whole code of a function, and its contract by types. Plain; no condition. -/
import Derived.Test.YtncnepmgmphanaaGreatDoorTcF
import Derived.Scope
import Derived.Test.YtncnepmgmphanaaGreatDoorProg
set_option linter.unusedVariables false
set_option linter.unusedSimpArgs false
set_option linter.unusedSectionVars false
namespace Go.Proofs.YtncnepmgmphanaaGreatDoor
open Go.RowKit
def endP (Γ : Gm) : List Nat → Gm
  | [] => Γ
  | _ :: _ => Γ.map fun p => (p.1, strip p.2)
def entOf (P : Program) (kd : Kd) (ev : Ev) (H : Hm) (FT : FuncId → Option FSig) (E : List EI) (ops : List Oper) (Γ : Gm) (ents : Ents) (i : Nat) : Option Ent × Nat × List EI :=
  match ops[i]? with
  | none => (none, 0, [])
  | some o => match guardSlot ops o with
    | none => (none, 0, [])
    | some g => match opTy P kd ev FT E H (odOf (lkIn (looksOf (look ops Γ ents i) g o) (look ops Γ ents i)) (guardK (lkIn (looksOf (look ops Γ ents i) g o) (look ops Γ ents i)) g)) o.op with
      | none => (none, 0, [])
      | some (r, inc, D) => (o.dst.bind fun _ => r.map fun t => (g, t), inc, D)
def mkEnts (P : Program) (kd : Kd) (ev : Ev) (H : Hm) (FT : FuncId → Option FSig) (E : List EI) (ops : List Oper) (Γ : Gm) : Nat → Ents → Ents
  | 0, ents => ents
  | n + 1, ents => mkEnts P kd ev H FT E ops Γ n (ents ++ [entOf P kd ev H FT E ops Γ ents ents.length])
def drawnRun (P : Program) (kd : Kd) (ev : Ev) (H : Hm) (FT : FuncId → Option FSig) (E : List EI) (nt lim n : Nat) (ops : List Oper) (Γ : Gm) (ents : Ents) : Option (Gm × Hm × Nat) :=
  if drawnOK P kd ev H FT E nt ops Γ ents && Nat.ble (n + incSum ents ops.length) lim then some (endG ops Γ ents, endH kd ops Γ ents H, incSum ents ops.length) else none
def lastCut (ops : List Oper) (ents : Ents) : Ents := match ops[ops.length - 1]? with
  | some o => if isLast ops (ops.length - 1) o then ents.take (ops.length - 1) else ents
  | none => ents
def isVsl : AT → Bool
  | .vsl _ _ _ => true
  | _ => false
def drawnH (P : Program) (kd : Kd) (ev : Ev) (FT : FuncId → Option FSig) (E : List EI) (ops : List Oper) (Γ : Gm) : Hm → Hm
  | [] => []
  | H => H.cut ((if H.any (fun p => isVsl p.2) then lastCut ops (mkEnts P kd ev [] FT E ops Γ ops.length []) else mkEnts P kd ev [] FT E ops Γ ops.length []).flatMap fun e => e.2.2)
def drawn2 (P : Program) (kd : Kd) (ev : Ev) (FT : FuncId → Option FSig) (E : List EI) (nt lim n : Nat) (ops : List Oper) (Γ : Gm) (H : Hm) : Option (Gm × Hm × Nat) :=
  drawnRun P kd ev H FT E nt lim n ops Γ (mkEnts P kd ev H FT E ops Γ ops.length [])
def chk (P : Program) (kd : Kd) (ev : Ev) (FT : FuncId → Option FSig) (E : List EI) (nt lim : Nat) : Code → Gm → Hm → Nat → (Gm → Hm → Nat → Bool) → (Nat → Gm → Hm → Nat → Bool) → (Gm → Hm → Nat → Bool) → Bool
  | .skip, Γ, H, n, kn, _, _ => kn Γ H n
  | .region _ ops true, Γ, H, n, kn, _, _ => match drawn2 P kd ev FT E nt lim n ops.toList Γ (drawnH P kd ev FT E ops.toList Γ H) with
    | some (Γ', H', m) => kn Γ' H' (n + m)
    | none => false
  | .region _ ops false, Γ, H, n, kn, _, _ => match seqTy P kd ev FT E nt lim ops.toList ops.toList Γ [] H n with
    | some (Γ', gs', H', n') => kn (endP Γ' gs') H' n'
    | none => false
  | .seq a b, Γ, H, n, kn, kx, kr => chk P kd ev FT E nt lim a Γ H n (fun Γ H n => chk P kd ev FT E nt lim b Γ H n kn kx kr) kx kr
  | .cond c x y, Γ, H, n, kn, kx, kr => match opndOf Γ.at [] c with
    | some (.kb true) => chk P kd ev FT E nt lim x Γ H n kn kx kr
    | some (.kb false) => chk P kd ev FT E nt lim y Γ H n kn kx kr
    | some (.v (.c .bool)) => chk P kd ev FT E nt lim x Γ H n kn kx kr && chk P kd ev FT E nt lim y Γ H n kn kx kr
    | _ => false
  | .block id b, Γ, H, n, kn, kx, kr => chk P kd ev FT E nt lim b Γ H n kn (fun i Γ H n => if i = id then kn Γ H n else kx i Γ H n) kr
  | .exit id, Γ, H, n, _, kx, _ => kx id Γ H n
  | .scope b, Γ, H, n, kn, kx, kr => chk P kd ev FT E nt lim b Γ H n kn kx kr
  | .ret, Γ, H, n, _, _, kr => kr Γ H n
  | _, _, _, _, _, _, _ => false
variable {P : Program} {kd : Kd} {cx : Cx} {w w' w0 : World} {B N N' : Nat} {E : List EI} {FT : FuncId → Option FSig} {G : World → Prop} {a : Act} {nt : Nat}
theorem strip_at {t : Nat} : ∀ (Γ : Gm), Gm.at (Γ.map fun p => (p.1, strip p.2)) t = strip (Γ.at t)
  | [] => rfl
  | (d, e) :: Γ => by
    simp only [List.map_cons, Gm.at_set]
    split
    · rfl
    · exact strip_at Γ
theorem strip_some {e : Option Ent} {x : Ent} (h : strip e = some x) : e = some x ∧ x.1 = none := by
  cases e with
  | none => cases h
  | some e =>
    obtain ⟨g, u⟩ := e
    cases g with
    | none => cases h; exact ⟨rfl, rfl⟩
    | some q => cases h
def Plain (Γ : Gm) : Prop := ∀ t e, Γ.at t = some e → e.1 = none
theorem endP_ok {Γ : Gm} {gs : List Nat} {H : Hm} (h : StOK kd cx E B w0 nt N H Γ.at a w) (hg : Guards Γ gs) : StOK kd cx E B w0 nt N H (endP Γ gs).at a w ∧ Plain (endP Γ gs) := by
  cases gs with
  | nil =>
    refine ⟨h, fun t e he => ?_⟩
    cases hx : e.1 with
    | none => rfl
    | some q => have := hg t e he q hx; cases this
  | cons g gs =>
    refine ⟨⟨h.size, h.defers, h.wt, h.eff, fun t e he => ?_, h.hm⟩, fun t e he => ?_⟩
    · simp only [endP] at he
      rw [strip_at] at he
      exact h.lk t e (strip_some he).1
    · simp only [endP] at he
      rw [strip_at] at he
      exact (strip_some he).2
theorem drawnH_ok {ev : Ev} {H : Hm} {ops : List Oper} {Γ : Gm} (h : StOK kd cx E B w0 nt N H Γ.at a w) : StOK kd cx E B w0 nt N (drawnH P kd ev FT E ops Γ H) Γ.at a w := by
  refine ⟨h.size, h.defers, h.wt, h.eff, h.lk, fun i T o t ht => ?_⟩
  cases H with
  | nil => cases ht
  | cons e H => exact h.hm i T o t (Hm.cut_at ht).1
theorem chk_sound {ev : Ev} (HFT : ∀ f s, FT f = some s → Callable P f ∧ TC P kd cx.sh B G f s) (hev : EvOK ev cx G) (hb : cx.base = w0.heap.size) (hB : B ≤ w0.heap.size) (HG : ∀ w, Eff (ChOf B kd cx E) w0 w → G w) (hm : P.follows .mixedOrders = true) (N0 : Nat) {lim : Nat} (hlim : N0 + lim ≤ 68719476736) :
    ∀ (c : Code) (Γ : Gm) (H : Hm) (n : Nat) (kn : Gm → Hm → Nat → Bool) (kx : Nat → Gm → Hm → Nat → Bool) (kr : Gm → Hm → Nat → Bool) (Q : Exit → Act → World → Prop) (a : Act) (w : World), chk P kd ev FT E nt lim c Γ H n kn kx kr = true → StOK kd cx E B w0 nt (N0 + n) H Γ.at a w → Plain Γ →
      (∀ Γ H n a w, kn Γ H n = true → StOK kd cx E B w0 nt (N0 + n) H Γ.at a w → Plain Γ → Q .normal a w) →
      (∀ i Γ H n a w, kx i Γ H n = true → StOK kd cx E B w0 nt (N0 + n) H Γ.at a w → Plain Γ → Q (.exit i) a w) →
      (∀ Γ H n a w, kr Γ H n = true → StOK kd cx E B w0 nt (N0 + n) H Γ.at a w → Plain Γ → Q .ret a w) → c.wp P Q a w := by
  intro c
  induction c with
  | skip => intro Γ H n kn kx kr Q a w h hs hp h1 h2 h3; exact wp_skip (h1 Γ H n a w h hs hp)
  | region id ops draw =>
    intro Γ H n kn kx kr Q a w h hs hp h1 h2 h3
    obtain ⟨ops⟩ := ops
    cases draw with
    | true =>
      simp only [chk, drawn2, drawnRun] at h
      split at h
      · rename_i Γ' H' m hr
        split at hr
        · rename_i hd
          cases hr
          simp only [Bool.and_eq_true] at hd
          have hle := Nat.le_of_ble_eq_true hd.2
          exact drawn_sound HFT hev hb hB HG hm (by omega) hd.1 (drawnH_ok hs) hp fun a w hs' hp' => h1 _ _ _ a w h (by rw [← Nat.add_assoc]; exact hs') hp'
        · cases hr
      · cases h
    | false =>
      simp only [chk] at h
      split at h
      · rename_i Γ' gs' H' n' hr
        refine wp_region_lit (seq_sound HFT hev hb hB HG hlim ops Γ Γ' [] gs' H H' n n' a w hr hs (fun t e he q hq => by rw [hp t e he] at hq; cases hq) fun a w hs' hg' => ?_)
        obtain ⟨e1, e2⟩ := endP_ok hs' hg'
        exact h1 _ _ n' a w h e1 e2
      · cases h
  | seq x y ihx ihy =>
    intro Γ H n kn kx kr Q a w h hs hp h1 h2 h3
    simp only [chk] at h
    exact wp_seq (ihx Γ H n _ kx kr _ a w h hs hp (fun Γ H n a w hk hs hp => ihy Γ H n kn kx kr Q a w hk hs hp h1 h2 h3) h2 h3)
  | cond c x y ihx ihy =>
    intro Γ H n kn kx kr Q a w h hs hp h1 h2 h3
    simp only [chk] at h
    split at h
    · rename_i g1
      have hbv : a.eval c = .bool true := opnd_ok (K := []) hs.lk (by simp) g1
      exact wp_cond_true hbv (ihx Γ H n kn kx kr Q a w h hs hp h1 h2 h3)
    · rename_i g1
      have hbv : a.eval c = .bool false := opnd_ok (K := []) hs.lk (by simp) g1
      exact wp_cond_false hbv (ihy Γ H n kn kx kr Q a w h hs hp h1 h2 h3)
    · rename_i g1
      simp only [Bool.and_eq_true] at h
      obtain ⟨b, hbv⟩ := opnd_ok (K := []) hs.lk (by simp) g1
      cases b with
      | true => exact wp_cond_true hbv (ihx Γ H n kn kx kr Q a w h.1 hs hp h1 h2 h3)
      | false => exact wp_cond_false hbv (ihy Γ H n kn kx kr Q a w h.2 hs hp h1 h2 h3)
    · cases h
  | block id b ih =>
    intro Γ H n kn kx kr Q a w h hs hp h1 h2 h3
    simp only [chk] at h
    refine wp_block (ih Γ H n kn _ kr _ a w h hs hp h1 (fun i Γ H n a w hk hs hp => ?_) h3)
    simp only [Exit.inBlock]
    split at hk
    · rename_i e
      rw [if_pos e]
      exact h1 Γ H n a w hk hs hp
    · rename_i e
      rw [if_neg e]
      exact h2 i Γ H n a w hk hs hp
  | loop b ih => intro Γ H n kn kx kr Q a w h; simp [chk] at h
  | rangeFunc f p s b ih1 ih2 => intro Γ H n kn kx kr Q a w h; simp [chk] at h
  | exit id => intro Γ H n kn kx kr Q a w h hs hp h1 h2 h3; exact wp_exit (h2 id Γ H n a w h hs hp)
  | scope b ih =>
    intro Γ H n kn kx kr Q a w h hs hp h1 h2 h3
    simp only [chk] at h
    exact wp_scope_straight (ih Γ H n kn kx kr _ a w h hs hp h1 h2 h3)
  | label l => intro Γ H n kn kx kr Q a w h; simp [chk] at h
  | goto l => intro Γ H n kn kx kr Q a w h; simp [chk] at h
  | ret => intro Γ H n kn kx kr Q a w h hs hp h1 h2 h3; exact wp_ret (h3 Γ H n a w h hs hp)
  | refuse s => intro Γ H n kn kx kr Q a w h; simp [chk] at h
def resAT (P : Program) (kd : Kd) (Γ : Gm) : ResultVar → Option AT
  | .tmp t => opndOf Γ.at [] (.tmp t)
  | .cell x T => match opndOf Γ.at [] (.tmp x), kd T with
    | some (.ptr U q g), some k => if segOK ((kd.sig U).getD []) q k.cells && rowOK P T k then ofVK kd k else none
    | _, _ => none
def subAT (kd : Kd) (t u : AT) : Bool := decide (t = u) || (match u with
  | .v k => toSub kd t k
  | .ptr T o .any => (match t with | .ptr T' o' _ => decide (T = T') && decide (o = o') | _ => false)
  | _ => false)
def resAll (P : Program) (kd : Kd) (Γ : Gm) : List ResultVar → List VK → Bool
  | [], [] => true
  | r :: rs, k :: l => (match resAT P kd Γ r with | some t => toSub kd t k | none => false) && resAll P kd Γ rs l
  | _, _ => false
def retOK (P : Program) (kd : Kd) (rs : List ResultVar) (s : FSig) (Γ : Gm) (H : Hm) (n : Nat) : Bool :=
  Nat.ble n s.inc && s.post.all (fun e => match H.at e.1 with | some t => subK kd t e.2 | none => false) && (match rs with
  | [r] => (match resAT P kd Γ r with
    | some t => subAT kd t s.res
    | none => false)
  | rs => (match s.res with
    | .tup l => resAll P kd Γ rs l
    | _ => false))
def initG : List AT → Nat → Gm
  | [], _ => []
  | t :: ps, i => (i, some (none, t)) :: initG ps (i + 1)
def effChk (kd : Kd) (prot : List (Nat × Nat)) : EI → Bool
  | .par _ T o => decide (o < kd.sz T) && !prot.contains (T, o)
  | .ty T o => decide (o < kd.sz T) && !prot.contains (T, o)
def fnChk (P : Program) (kd : Kd) (ev : Ev) (FT : FuncId → Option FSig) (prot : List (Nat × Nat)) (fn : Func) (s : FSig) : Bool :=
  match fn.body with
  | none => false
  | some c => Nat.ble s.ps.length fn.ntmps && s.eff.all (effChk kd prot) && chk P kd ev FT s.eff fn.ntmps s.inc c (initG s.ps 0) s.pre 0 (retOK P kd fn.results.toList s) (fun _ _ _ _ => false) (retOK P kd fn.results.toList s)
theorem subAT_ok {t u : AT} {v : Value} (hBb : B ≤ cx.base) (h : subAT kd t u = true) (hv : ATok kd cx w B N t v) : ATok kd cx w B N u v := by
  simp only [subAT, Bool.or_eq_true, decide_eq_true_eq] at h
  rcases h with rfl | h
  · exact hv
  · split at h
    · exact toSub_ok hBb h hv
    · split at h
      · simp only [Bool.and_eq_true, decide_eq_true_eq] at h
        obtain ⟨rfl, rfl⟩ := h
        obtain ⟨b, r, e, h1, h2, -⟩ := hv
        exact ⟨b, r, e, h1, h2, trivial⟩
      · cases h
    · cases h
def resSem (tmps : Array Value) : ResultVar → Sem Value
  | .tmp t => pure (tmps.getD t undef)
  | .cell a t => do loadVar t (← asAddr (tmps.getD a undef))
theorem resAT_ok {Γ : Gm} {H : Hm} (hs : StOK kd cx E B w0 nt N H Γ.at a w) {r : ResultVar} {t : AT} (h : resAT P kd Γ r = some t) : ∃ v, (resSem a.tmps r).run P w = .ok v w ∧ ATok kd cx w B N t v := by
  cases r with
  | tmp s => exact ⟨_, rfl, opnd_ok (K := []) (x := .tmp s) hs.lk (by simp) h⟩
  | cell x T =>
    simp only [resAT] at h
    split at h
    · rename_i U q g k h1 h2
      split at h
      · rename_i hc
        simp only [Bool.and_eq_true] at hc
        have hx := opnd_ok (K := []) hs.lk (by simp) h1
        obtain ⟨v, e, hv⟩ := run_load_ty (P := P) (T := T) hs.wt hx hc.1 hc.2 h
        obtain ⟨b, r, e2, -⟩ := id hx
        refine ⟨v, ?_, hv⟩
        have e3 : a.tmps.getD x undef = .pointer (some ⟨b, r * kd.sz U + q, none⟩) := e2
        rw [e2] at e
        simp only [resSem, e3, asAddr, Sem.run_bind, Sem.run_pure, Result.andThen_ok]
        simpa only [Instr.loadAt, Instr.sureAddr, Sem.run_bind, Sem.run_pure, Result.andThen_ok] using e
      · cases h
    · cases h
theorem resAll_ok {Γ : Gm} {H : Hm} (hBb : B ≤ cx.base) (hs : StOK kd cx E B w0 nt N H Γ.at a w) : ∀ {rs : List ResultVar} {l : List VK}, resAll P kd Γ rs l = true → ∃ vs, (rs.mapM (resSem a.tmps)).run P w = .ok vs w ∧ AllV w B N l vs
  | [], [], _ => ⟨[], rfl, trivial⟩
  | [], _ :: _, h => by cases h
  | _ :: _, [], h => by cases h
  | r :: rs, k :: l, h => by
    simp only [resAll, Bool.and_eq_true, decide_eq_true_eq] at h
    obtain ⟨vs, e2, hvs⟩ := resAll_ok hBb hs h.2
    cases hr : resAT P kd Γ r with
    | none => rw [hr] at h; cases h.1
    | some t =>
      rw [hr] at h
      obtain ⟨v, e1, hv⟩ := resAT_ok hs hr
      exact ⟨v :: vs, by simp [List.mapM_cons, e1, e2], toSub_ok hBb h.1 hv, hvs⟩
theorem results_eq (fn : Func) (tmps : Array Value) : results fn tmps = (do let vs ← fn.results.mapM (resSem tmps); pure (if h : vs.size = 1 then vs[0] else .tuple vs)) := by
  unfold results
  congr 1
theorem ret_ok {fn : Func} {s : FSig} {Γ : Gm} {H : Hm} (hBb : B ≤ cx.base) (hs : StOK kd cx E B w0 nt N H Γ.at a w) {n : Nat} (h : retOK P kd fn.results.toList s Γ H n = true) : n ≤ s.inc ∧ HOK kd cx w B N s.post ∧ ∃ v, (results fn a.tmps).run P w = .ok v w ∧ ATok kd cx w B N s.res v := by
  simp only [retOK, Bool.and_eq_true] at h
  refine ⟨Nat.le_of_ble_eq_true h.1.1, fun i T o t ht => ?_, ?_⟩
  · have h1 := List.all_eq_true.1 h.1.2 _ (Hm.at_mem ht)
    split at h1
    · rename_i t' ht'
      obtain ⟨k1, k2, k3, v, k4, k5⟩ := hs.hm i T o t' ht'
      exact ⟨k1, k2, k3, v, k4, subK_ok hBb h1 k5⟩
    · cases h1
  rw [results_eq, Array.mapM_eq_mapM_toList]
  have h2 := h.2
  split at h2
  · rename_i r hrs
    split at h2
    · rename_i t ht
      obtain ⟨v, e, hv⟩ := resAT_ok hs ht
      rw [hrs]
      exact ⟨v, by simp [List.mapM_cons, e], subAT_ok hBb h2 hv⟩
    · cases h2
  · rename_i hne
    split at h2
    · rename_i l hl
      obtain ⟨vs, e, hvs⟩ := resAll_ok hBb hs h2
      refine ⟨.tuple vs.toArray, ?_, by rw [hl]; exact ⟨vs, rfl, hvs⟩⟩
      have hlen : vs.length ≠ 1 := fun hv1 => by
        have : fn.results.toList.length = vs.length := by
          have h5 : ∀ {rs : List ResultVar} {l : List VK}, resAll P kd Γ rs l = true → rs.length = l.length := by
            intro rs
            induction rs with
            | nil => intro l h; cases l with
              | nil => rfl
              | cons a b => cases h
            | cons r rs ih => intro l h; cases l with
              | nil => cases h
              | cons a b => simp only [resAll, Bool.and_eq_true] at h; simp [ih h.2]
          have h6 : ∀ {l : List VK} {vs : List Value}, AllV w B N l vs → l.length = vs.length := by
            intro l
            induction l with
            | nil => intro vs h; cases vs with
              | nil => rfl
              | cons a b => exact h.elim
            | cons k l ih => intro vs h; cases vs with
              | nil => exact h.elim
              | cons a b => simp [ih h.2]
          rw [h5 h2, h6 hvs]
        rw [hv1] at this
        match hr : fn.results.toList, this with
        | [r], _ => exact hne r hr
      simp [e, hlen]
    · cases h2
theorem initG_at : ∀ (ps : List AT) (i t : Nat) (e : Ent), (initG ps i).at t = some e → ∃ j u, ps[j]? = some u ∧ t = i + j ∧ e = (none, u)
  | [], i, t, e, h => by cases h
  | p :: ps, i, t, e, h => by
    simp only [initG, Gm.at_set] at h
    split at h
    · rename_i ht
      cases h
      exact ⟨0, p, rfl, by omega, rfl⟩
    · obtain ⟨j, u, h1, h2, h3⟩ := initG_at ps (i + 1) t e h
      exact ⟨j + 1, u, by simpa using h1, by omega, h3⟩
def Safe (kd : Kd) (prot : List (Nat × Nat)) (G : World → Prop) : Prop := ∀ w w', G w → Eff (fun k T j => (T, j % kd.sz T) ∉ prot) w w' → G w'
theorem eff_prot {prot : List (Nat × Nat)} (hp : E.all (effChk kd prot) = true) (hb : cx.base = w.heap.size) (h : Eff (ChOf B kd cx E) w w') : Eff (fun k T j => (T, j % kd.sz T) ∉ prot) w w' := by
  rw [List.all_eq_true] at hp
  refine h.monoT fun k c T f j hk hc => ?_
  rcases hc with hc | ⟨i, o, hm, -, rfl, hBk⟩ | ⟨o, hm, rfl, hBk⟩
  · have := lt_of_blk hk; omega
  · have := hp _ hm
    simp only [effChk, Bool.and_eq_true, decide_eq_true_eq, Bool.not_eq_true'] at this
    rw [Nat.add_comm, Nat.add_mul_mod_self_right, Nat.mod_eq_of_lt this.1]
    intro hx
    have := List.contains_iff_mem.2 hx
    simp_all
  · have := hp _ hm
    simp only [effChk, Bool.and_eq_true, decide_eq_true_eq, Bool.not_eq_true'] at this
    intro hx
    have := List.contains_iff_mem.2 hx
    simp_all
theorem fn_sound {ev : Ev} {sh : Sh} {prot : List (Nat × Nat)} {f : FuncId} {fn : Func} {s : FSig} (hf : P.funcs[f]? = some fn) (h : fnChk P kd ev FT prot fn s = true) (HFT : ∀ f s, FT f = some s → Callable P f ∧ TC P kd sh B G f s) (hev : EvSh ev sh G) (hS : Safe kd prot G) (hm : P.follows .mixedOrders = true) : TC P kd sh B G f s := by
  intro N w args hargs hB hlim hwt hG hps hpre
  unfold fnChk at h
  split at h
  · cases h
  · rename_i c hbody
    simp only [Bool.and_eq_true] at h
    obtain ⟨⟨h1, h2⟩, h3⟩ := h
    have hn := Nat.le_of_ble_eq_true h1
    have st : StOK kd (cxOf kd sh s args w) s.eff B w fn.ntmps (N + 0) s.pre (initG s.ps 0).at { tmps := args ++ Array.replicate (fn.ntmps - args.size) undef, defers := [] } w := by
      refine ⟨by simp; omega, rfl, hwt, Eff.refl _ _, fun t e he => ?_, hpre⟩
      obtain ⟨j, u, g1, rfl, rfl⟩ := initG_at _ _ _ _ he
      obtain ⟨v, g2, g3⟩ := hps j u g1
      have : slot { tmps := args ++ Array.replicate (fn.ntmps - args.size) undef, defers := [] } (0 + j) = v := by
        unfold slot
        rw [Nat.zero_add, Array.getD_eq_getD_getElem?, Array.getElem?_append, if_pos (Array.getElem?_eq_some_iff.1 g2).1, g2]
        rfl
      simp only [SlotOK]
      rw [this]
      exact g3
    have fin : ∀ (Γ : Gm) (H : Hm) (n : Nat) (a : Act) (w' : World), retOK P kd fn.results.toList s Γ H n = true → StOK kd (cxOf kd sh s args w) s.eff B w fn.ntmps (N + n) H Γ.at a w' → a.defers = [] ∧ ∃ v, (results fn a.tmps).run P w' = .ok v w' ∧
        ∃ v', Ending.returned v = .returned v' ∧ WT kd.sig B (N + s.inc) w' ∧ Eff (ChOf B kd (cxOf kd sh s args w) s.eff) w w' ∧ ATok kd (cxOf kd sh s args w) w' B (N + s.inc) s.res v' ∧ HOK kd (cxOf kd sh s args w) w' B (N + s.inc) s.post := fun Γ H n a w' hk hs => by
      obtain ⟨r1, rp, v, r2, r3⟩ := ret_ok (show B ≤ w.heap.size from hB) hs hk
      exact ⟨hs.defers, v, r2, v, rfl, hs.wt.mono (by omega), hs.eff, r3.mono (Eff.refl (fun _ _ _ => False) _) (by omega), fun i T o t ht => (by
        obtain ⟨k1, k2, k3, v, k4, k5⟩ := rp i T o t ht
        exact ⟨k1, k2, k3, v, k4, k5.mono (Eff.refl (fun _ _ _ => False) _) (by omega)⟩)⟩
    refine calls_of_wp hf hbody (chk_sound (cx := cxOf kd sh s args w) HFT hev rfl hB (fun w' he => hS w w' hG (eff_prot h2 rfl he)) hm N hlim c _ _ _ _ _ _ _ _ _ h3 st (fun t e he => ?_) (fun Γ H n a w' hk hs _ => ?_) (fun i Γ H n a w' hk => by cases hk) (fun Γ H n a w' hk hs _ => ?_))
    · obtain ⟨j, u, g1, rfl, rfl⟩ := initG_at _ _ _ _ he
      rfl
    · exact fin Γ H n a w' hk hs
    · exact fin Γ H n a w' hk hs
def TCa (P : Program) (kd : Kd) (sh : Sh) (B : Nat) (G : World → Prop) (f : FuncId) (s : FSig) (alts : List (AT × Hm)) : Prop :=
  ∀ (N : Nat) (w : World) (args : Array Value), args.size = s.ps.length → B ≤ w.heap.size → N + s.inc ≤ 68719476736 → WT kd.sig B N w → G w →
    (∀ (i : Nat) (t : AT), s.ps[i]? = some t → ∃ v, args[i]? = some v ∧ ATok kd (cxOf kd sh s args w) w B N t v) →
    HOK kd (cxOf kd sh s args w) w B N s.pre →
    Calls P f args w fun e w' => ∃ v, e = .returned v ∧ WT kd.sig B (N + s.inc) w' ∧ Eff (ChOf B kd (cxOf kd sh s args w) s.eff) w w' ∧ ∃ q ∈ alts, ATok kd (cxOf kd sh s args w) w' B (N + s.inc) q.1 v ∧ HOK kd (cxOf kd sh s args w) w' B (N + s.inc) q.2
end Go.Proofs.YtncnepmgmphanaaGreatDoor

namespace Go.Proofs.YtncnepmgmphanaaGreatDoor
abbrev cs_api_Event : List CK := [.int .i64, .int .i64, .int .i64, .int .i64, .int .i64]
abbrev cs_api_Queue : List CK := [.int .i64, .int .i64, .int .i64, .int .i64]
abbrev cs_api_Instr : List CK := [.int .i64, .int .i64, .int .i64]
abbrev cs_api_Submission : List CK := [.int .i64, .int .i64, .int .i64]
abbrev cs_api_Entry : List CK := [.int .i64, .int .i64]
abbrev cs_api_Access : List CK := [.int .i64, .int .i64, .int .u64, .int .u64]
abbrev cs_r02_Memory : List CK := [.sl 59 1, .int .i64, .int .i64, .int .u64, .int .u64, .int .i64]
abbrev cs_api_Record : List CK := [.int .i64, .int .i64, .int .i64, .int .i64, .int .i64, .sl 3 1, .bool]
abbrev cs_r08_Frame : List CK := [.int .i64, .int .i64, .int .i64, .int .i64, .int .i64, .int .i64, .int .i64, .int .i64, .int .i64, .int .i64, .int .i64, .int .i64, .int .i64, .int .u64, .int .u64, .int .u64, .int .u64, .sl 3 1]
abbrev cs_api_Config : List CK := [.int .i64, .int .i64, .int .i64, .int .i64, .int .i64, .int .i64, .int .i64, .int .i64, .int .i64, .sl 123 1, .sl 127 3]
abbrev cs_r08_Machine : List CK := [.sl 118 18, .bool, .int .i64, .int .i64]
abbrev cs_r08_result : List CK := [.bool, .int .i64, .int .i64]
abbrev cs_r08_Env : List CK := [.int .i64, .int .i64, .int .i64, .int .i64, .int .i64, .int .i64, .int .i64, .int .i64, .int .i64, .sl 123 1, .sl 127 3, .sl 59 1, .int .i64, .int .i64, .int .u64, .int .u64, .int .i64, .int .i64, .int .i64, .sl 137 7, .sl 27 5]
abbrev cs_r28_Engine : List CK := [.ptr 66 21, .sl 113 1, .int .i64, .sl 3 1, .int .i64, .int .i64, .int .u64, .int .u64]
def kdL : List (Nat × VK) := [
  (3, .c (.int .i64)),
  (4, .c .bool),
  (59, .c (.int .u64)),
  (5, .c (.int .u8)),
  (30, .c (.int .i64)),
  (29, .c (.sl 3 1)),
  (58, .c (.sl 59 1)),
  (23, .c (.sl 5 1)),
  (22, .c (.sl 27 5)),
  (64, .c (.sl 137 7)),
  (139, .c (.sl 118 18)),
  (123, .c (.sl 125 3)),
  (45, .c (.sl 123 1)),
  (46, .c (.sl 127 3)),
  (51, .c (.sl 88 2)),
  (68, .c (.sl 113 1)),
  (113, .c .np),
  (67, .c (.ptr 66 21)),
  (27, .agg cs_api_Event),
  (116, .agg cs_api_Queue),
  (125, .agg cs_api_Instr),
  (127, .agg cs_api_Submission),
  (88, .agg cs_api_Entry),
  (61, .agg cs_api_Access),
  (63, .agg cs_r02_Memory),
  (137, .agg cs_api_Record),
  (118, .agg cs_r08_Frame),
  (48, .agg cs_api_Config),
  (141, .agg cs_r08_Machine),
  (146, .agg cs_r08_result),
  (66, .agg cs_r08_Env),
  (70, .agg cs_r28_Engine)]
def evE : Ev := (66, [0, 9, 10, 11, 19])
def kdLook : List (Nat × VK) → Nat → Option VK
  | [], _ => none
  | (d, e) :: l, t => cond (Nat.beq d t) (some e) (kdLook l t)
def kd : Kd := kdLook kdL
def ftLook : List (Nat × FSig) → Nat → Option FSig
  | [], _ => none
  | (d, e) :: l, t => cond (Nat.beq d t) (some e) (ftLook l t)
theorem hft_nil {P : Program} {sh : Sh} {B : Nat} {G : World → Prop} : ∀ f s, ftLook [] f = some s → Callable P f ∧ TC P kd sh B G f s := fun _ _ h => by cases h
theorem hft_cons {P : Program} {sh : Sh} {B : Nat} {G : World → Prop} {l : List (Nat × FSig)} {g : Nat} {t : FSig} (hc : Callable P g) (ht : TC P kd sh B G g t) (h : ∀ f s, ftLook l f = some s → Callable P f ∧ TC P kd sh B G f s) : ∀ f s, ftLook ((g, t) :: l) f = some s → Callable P f ∧ TC P kd sh B G f s := by
  intro f s hf
  simp only [ftLook] at hf
  cases hb : Nat.beq g f with
  | true =>
    rw [hb] at hf
    cases hf
    obtain rfl := Nat.eq_of_beq_eq_true hb
    exact ⟨hc, ht⟩
  | false => rw [hb] at hf; exact h f s hf
abbrev EvG (sh : Sh) (G : World → Prop) : Prop := EvSh evE sh G
theorem callable_of {P : Program} {f : FuncId} {fn : Func} (h : P.funcs[f]? = some fn) (h1 : (fn.name == "runtime.NumGoroutine") = false) (h2 : fn.body.isNone = false) : Callable P f := ⟨fn, h, h1, h2⟩
def effM : List EI := [.ty 66 12, .ty 66 13, .ty 66 14, .ty 66 15, .ty 66 16, .ty 59 0]
def effE : List EI := [.ty 66 20, .ty 27 0, .ty 27 1, .ty 27 2, .ty 27 3, .ty 27 4]
def effF : List EI := [.par 1 118 1, .par 1 118 2, .par 1 118 3, .par 1 118 4, .par 1 118 5, .par 1 118 6, .par 1 118 7, .par 1 118 8, .par 1 118 9, .par 1 118 10, .par 1 118 11, .par 1 118 12, .par 1 118 13, .par 1 118 14, .par 1 118 15, .par 1 118 16]
def effF0 : List EI := [.par 0 118 1, .par 0 118 2, .par 0 118 3, .par 0 118 4, .par 0 118 5, .par 0 118 6, .par 0 118 7, .par 0 118 8, .par 0 118 9, .par 0 118 10, .par 0 118 11, .par 0 118 12, .par 0 118 13, .par 0 118 14, .par 0 118 15, .par 0 118 16]
def effR : List EI := [.ty 137 0, .ty 137 1, .ty 137 2, .ty 137 3, .ty 137 4, .ty 137 5, .ty 137 6]
def prot : List (Nat × Nat) := [(66, 0), (66, 1), (66, 2), (66, 3), (66, 4), (66, 5), (66, 6), (66, 7), (66, 8), (66, 9), (66, 10), (66, 11), (66, 19), (125, 0), (125, 1), (125, 2), (123, 0), (127, 0), (127, 1), (127, 2), (3, 0)]
end Go.Proofs.YtncnepmgmphanaaGreatDoor
