/- Windows of entries: how often each place occurs, and what a map of counts says. -/
import Derived.Test.YtfhmphbfngdkeaaScriptCompl
import Derived.Test.YtfhmphbfngdkeaaScriptKit2
namespace Go.Proofs.Ytfhmphbfngdkeaa
open Go.RowKit Go.Maps
set_option linter.unusedVariables false

def occ (m : Nat) (t : List E) (p : Nat) : Nat := t.countP fun e => decide (placeI e m = (p : Int))
theorem occ_snoc (m : Nat) (t : List E) (e : E) (p : Nat) : occ m (t ++ [e]) p = occ m t p + (if placeI e m = (p : Int) then 1 else 0) := by
  unfold occ
  rw [List.countP_append]
  simp [List.countP_cons]
theorem occ_cons (m : Nat) (t : List E) (e : E) (p : Nat) : occ m (e :: t) p = occ m t p + (if placeI e m = (p : Int) then 1 else 0) := by
  unfold occ
  simp [List.countP_cons]
theorem occ_seen (m : Nat) (t : List E) (p : Nat) : decide (0 < occ m t p) = seenF m t p := by
  unfold occ seenF
  rw [Bool.eq_iff_iff, decide_eq_true_iff, List.countP_pos_iff, List.any_eq_true]

/-- The part of a list behind its first entry. -/
theorem part_tail {l : List E} {i f : Nat} (hf : f < i) (hi : i ≤ l.length) : (l.take i).drop f = l.getD f (0, 0) :: (l.take i).drop (f + 1) := by
  have h : f < (l.take i).length := by rw [List.length_take]; omega
  rw [List.drop_eq_getElem_cons h]
  simp [List.getD, List.getElem?_eq_getElem (show f < l.length by omega)]

/-- Every k consecutive entries are complete. -/
def fairB (m k : Nat) (l : List E) : Bool := decide (∀ i, i < l.length + 1 - k → complB m ((l.take (i + k)).drop i) = true)
def fairI (m k : Int) (l : List E) : Bool := decide (1 ≤ m) && decide (1 ≤ k) && fairB m.toNat k.toNat l

/-- The map of block b holds just the counts of C that are not 0. -/
def CntIs (w : World) (b : Nat) (C : Nat → Nat) (k : Nat) (N : Nat) : Prop :=
  ∃ D : DataW Unit, w.ownsMap Try.prog 3 (plainElem Try.prog 3) b N D ∧ Maps.Tidy D ∧ Maps.size D = cntF (fun p => decide (0 < C p)) k ∧ ∀ p : Nat, p < k → Maps.has D (.int .i64 p) = decide (0 < C p) ∧ D.atKey (.int .i64 p) (.lit (.int .i64 0)) = .lit (.int .i64 (C p))

/-- One number of a family changes. -/
def setC (C : Nat → Nat) (q v : Nat) : Nat → Nat := fun p => if p = q then v else C p

theorem cntF_set (f g : Nat → Bool) (q k : Nat) (hq : q < k) (h : ∀ p, p < k → p ≠ q → f p = g p) : cntF f k + (if g q then 1 else 0) = cntF g k + (if f q then 1 else 0) := by
  induction k with
  | zero => omega
  | succ k ih =>
    rw [cntF_succ, cntF_succ]
    by_cases e : q = k
    · subst e
      rw [cntF_congr (g := g) (fun i hi => h i (by omega) (by omega))]
      omega
    · have := ih (by omega) (fun p hp hn => h p (by omega) hn)
      rw [h k (by omega) (by omega)]
      omega

theorem keyLit' (z : Int) : WideAt.IsKeyLit (.int .i64 z) := trivial

theorem cnt_put {D : DataW Unit} {C : Nat → Nat} {k q v : Nat} (hq : q < k) (hv : 0 < v) (h1 : Maps.Tidy D) (h2 : Maps.size D = cntF (fun p => decide (0 < C p)) k) (h3 : ∀ p : Nat, p < k → Maps.has D (.int .i64 p) = decide (0 < C p) ∧ D.atKey (.int .i64 p) (.lit (.int .i64 0)) = .lit (.int .i64 (C p))) :
    Maps.Tidy (D.put (.int .i64 q) (.lit (.int .i64 v))) ∧ Maps.size (D.put (.int .i64 q) (.lit (.int .i64 v))) = cntF (fun p => decide (0 < setC C q v p)) k ∧
    ∀ p : Nat, p < k → Maps.has (D.put (.int .i64 q) (.lit (.int .i64 v))) (.int .i64 p) = decide (0 < setC C q v p) ∧ (D.put (.int .i64 q) (.lit (.int .i64 v))).atKey (.int .i64 p) (.lit (.int .i64 0)) = .lit (.int .i64 (setC C q v p)) := by
  refine ⟨h1.put (keyLit' _) _, ?_, fun p hp => ?_⟩
  · have h4 := cntF_set (fun p => decide (0 < setC C q v p)) (fun p => decide (0 < C p)) q k hq (fun p _ hn => by simp [setC, hn])
    rw [Maps.size_put h1, (h3 q hq).1]
    simp only [setC, if_true] at h4
    rw [decide_eq_true hv] at h4
    simp only [setC]
    by_cases hc : 0 < C q
    · rw [decide_eq_true hc] at h4
      rw [if_pos (decide_eq_true hc)]
      simp at h4
      omega
    · rw [decide_eq_false hc] at h4
      rw [if_neg (by simp [hc])]
      simp at h4
      omega
  · by_cases e : p = q
    · subst e
      rw [Maps.has_put_same h1.isMap (keyLit' _), Maps.atKey_put_same h1.isMap (keyLit' _)]
      simp [setC, hv]
    · rw [Maps.has_put_other (by simp; omega), Maps.atKey_put_other (by simp; omega), (h3 p hp).1, (h3 p hp).2]
      simp [setC, e]

theorem cnt_del {D : DataW Unit} {C : Nat → Nat} {k q : Nat} {d : DataW Unit} (hq : q < k) (h1 : Maps.Tidy D) (h2 : Maps.size D = cntF (fun p => decide (0 < C p)) k) (h3 : ∀ p : Nat, p < k → Maps.has D (.int .i64 p) = decide (0 < C p) ∧ D.atKey (.int .i64 p) (.lit (.int .i64 0)) = .lit (.int .i64 (C p))) :
    Maps.Tidy ((D.put (.int .i64 q) d).del (.int .i64 q)) ∧ Maps.size ((D.put (.int .i64 q) d).del (.int .i64 q)) = cntF (fun p => decide (0 < setC C q 0 p)) k ∧
    ∀ p : Nat, p < k → Maps.has ((D.put (.int .i64 q) d).del (.int .i64 q)) (.int .i64 p) = decide (0 < setC C q 0 p) ∧ ((D.put (.int .i64 q) d).del (.int .i64 q)).atKey (.int .i64 p) (.lit (.int .i64 0)) = .lit (.int .i64 (setC C q 0 p)) := by
  have hp := h1.put (keyLit' q) d
  refine ⟨hp.del _, ?_, fun p hp => ?_⟩
  · have h4 := cntF_set (fun p => decide (0 < setC C q 0 p)) (fun p => decide (0 < C p)) q k hq (fun p _ hn => by simp [setC, hn])
    have h5 := Maps.size_del (k := .int .i64 q) hp
    rw [Maps.has_put_same h1.isMap (keyLit' _), Maps.size_put h1, (h3 q hq).1] at h5
    simp only [setC, if_true] at h4
    simp only [setC]
    by_cases hc : 0 < C q
    · rw [decide_eq_true hc] at h4 h5
      simp at h4 h5
      omega
    · rw [decide_eq_false hc] at h4 h5
      simp at h4 h5
      omega
  · by_cases e : p = q
    · subst e
      rw [Maps.has_del_same, Maps.atKey_del_same]
      simp [setC]
    · rw [Maps.has_del_other (by simp; omega), Maps.atKey_del_other (by simp; omega), Maps.has_put_other (by simp; omega), Maps.atKey_put_other (by simp; omega), (h3 p hp).1, (h3 p hp).2]
      simp [setC, e]

theorem CntIs.congr {w : World} {b k N : Nat} {C C' : Nat → Nat} (h : CntIs w b C k N) (e : ∀ p, p < k → C p = C' p) : CntIs w b C' k N := by
  obtain ⟨D, g1, g2, g3, g4⟩ := h
  refine ⟨D, g1, g2, ?_, fun p hp => ?_⟩
  · rw [g3]
    exact cntF_congr fun p hp => by rw [e p hp]
  · rw [← e p hp]
    exact g4 p hp

/-- 'len(m)' of a map of the call's own, also where the operation stands behind a guard. -/
theorem wpList_len_want {H : Type} {P : Program} (w : World) {ops : Array Oper} {rest : List Oper} {o : Oper} {a : Act} {Q : Exit → Act → World → Prop} (hw : Region.wanted o (yielded ops a.tmps) = true) (m : Operand) (t : TypeId) (hop : o.op = Op.call { callee := Callee.builtin Builtin.len, args := #[m], argTypes := #[t] })
    (k e : TypeId) (ht : P.underlying t = some (.map k e)) (R : Value → Option (DataW H × List MemPlace)) (b n : Nat) (D : DataW H) (hm : a.eval m = .map (some b)) (hown : w.ownsMap P k R b n D)
    (hK : wpList P ops Q rest (a.put o.dst (.int .i64 (Maps.size D))) w) :
    wpList P ops Q (o :: rest) a w := by
  refine BigFrame.wpList_want hw fun K' hK' => ?_
  unfold Oper.wp
  simp [execOp, hop, resolve, invoke, builtin, hm, hown.len ht o.type, Result.andThen]
  exact hK' _ _ hK

theorem occ_le (m : Nat) (t : List E) (p : Nat) : occ m t p ≤ t.length := List.countP_le_length
theorem fair_false {m k i : Nat} {l : List E} (hi : i < l.length) (hk : k ≤ i + 1) (h : ¬ complB m ((l.take (i + 1)).drop (i + 1 - k)) = true) : fairB m k l = false := by
  refine decide_eq_false fun hf => h ?_
  have := hf (i + 1 - k) (by omega)
  rwa [show i + 1 - k + k = i + 1 by omega] at this
theorem fair_true {m k : Nat} {l : List E} (h : ∀ j, j + k ≤ l.length → complB m ((l.take (j + k)).drop j) = true) : fairB m k l = true := decide_eq_true fun j hj => h j (by omega)
theorem fair_more {m k i : Nat} {l : List E} (h : ∀ j, j + k ≤ i → complB m ((l.take (j + k)).drop j) = true) (h2 : k ≤ i + 1 → complB m ((l.take (i + 1)).drop (i + 1 - k)) = true) : ∀ j, j + k ≤ i + 1 → complB m ((l.take (j + k)).drop j) = true := by
  intro j hj
  by_cases e : j + k ≤ i
  · exact h j e
  · obtain rfl : j = i + 1 - k := by omega
    rw [show i + 1 - k + k = i + 1 by omega]
    exact h2 (by omega)
theorem size_compl {m : Nat} (hm : 1 ≤ m) {t : List E} {c : Nat} (h : c = cntF (fun p => decide (0 < occ m t p)) (m + 1)) : (complB m t = true ↔ c = m + 1) ∧ c ≤ m + 1 := by
  have e : (fun p => decide (0 < occ m t p)) = seenF m t := funext fun p => occ_seen m t p
  rw [e] at h
  subst h
  exact ⟨compl_cnt hm t, cntF_le _ _⟩

theorem mapTurned_grown {w w' : World} {b : Nat} (h : w.mapTurned w' b) : w.grownBy w' (some b) := h.grown
end Go.Proofs.Ytfhmphbfngdkeaa
