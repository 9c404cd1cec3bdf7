/- The game, plain: from its start to its end; its operations have an order, and all acts are done. -/
import Derived.Test.YtfhkhknnoepfeaaHistGameP2
namespace Go.Proofs.Ytfhkhknnoepfeaa
open Go.RowKit

def zerosN (n : Nat) : List Int := List.replicate n 0
def Ac.idle (v : Ac) : Bool := v.now.isNone && v.acts.isEmpty
def Ac.left (v : Ac) : Nat := v.acts.length + (if v.now.isSome then 1 else 0)
/-- A bound of the steps that an actor has still to do. -/
def Ac.work (v : Ac) : Nat := 10 * v.acts.length + match v.now with
  | none => 0
  | some (k, _) => 10 - k.line

/-- Something of what holds. -/
def GX (c : Nat) (g : Gm) : Prop := ∃ t L res H S, GN c none g t L res H S

theorem GN.tick {c : Nat} {g : Gm} {t : Nat} {L : List Int} {res : Option Int} {H S : List HOp} (h : GN c none g t L res H S) : GN c none { g with pick := g.pick + 1 } t L res H S :=
  ⟨⟨h.C.B, by have := h.C.tb; show t ≤ g.pick + 1; omega, h.C.someN, fun a k o e => by
      obtain ⟨a1, a2, a3, a4⟩ := h.C.fr a k o e
      have := a4 (by simp)
      exact ⟨a1, a2, by show o.frm ≤ ((g.pick + 1 : Nat) : Int); omega, fun _ => by show o.frm < ((g.pick + 1 : Nat) : Int); omega⟩, h.C.acts0, h.C.actsN, h.C.sok, h.C.kok⟩,
    h.none0, h.some0, h.vals, fun o ho => ⟨(h.ops o ho).1, by have := (h.ops o ho).2; show o.to < ((g.pick + 1 : Nat) : Int); omega⟩, h.perm, h.run, h.pw, h.still, h.crit, h.late, h.abort⟩

theorem begun_some {q : Q4} {g : Gm} {a : Nat} {ko : K × HOp} (h : (g.acs a).now = some ko) : g.begun q a = g.acs a := by unfold Gm.begun; rw [h]
theorem begun_nil {q : Q4} {g : Gm} {a : Nat} (h : (g.acs a).now = none) (ha : (g.acs a).acts = []) : g.begun q a = g.acs a := by unfold Gm.begun; rw [h, ha]
theorem begun_cons {q : Q4} {g : Gm} {a : Nat} {x : Int × Int} {r : List (Int × Int)} (h : (g.acs a).now = none) (ha : (g.acs a).acts = x :: r) : g.begun q a = ⟨r, some (newK q x, op0 a g.pick x)⟩ := by unfold Gm.begun; rw [h, ha]
theorem set_self {g : Gm} {a : Nat} : g.set a (g.acs a) = g := by
  have : upd g.acs a (g.acs a) = g.acs := by
    funext b
    by_cases h : b = a
    · subst h; exact upd_same _ _ _
    · exact upd_ne h
  unfold Gm.set; rw [this]

/-- What a pick of an actor is. -/
inductive GStep (q : Q4) (g : Gm) (a : Nat) : Gm → Prop
  | idle (h : (g.acs a).now = none) (ha : (g.acs a).acts = []) : GStep q g a { g with pick := g.pick + 1 }
  | more (k : K) (o : HOp) (h : (g.acs a).now = some (k, o)) : GStep q g a (g.stepped a k o)
  | begin (x : Int × Int) (r : List (Int × Int)) (h : (g.acs a).now = none) (ha : (g.acs a).acts = x :: r) : GStep q g a ((g.set a ⟨r, some (newK q x, op0 a g.pick x)⟩).stepped a (newK q x) (op0 a g.pick x))
theorem gstep_is (q : Q4) (g : Gm) (a : Nat) : GStep q g a (gstep q g a) := by
  unfold gstep
  cases h : (g.acs a).now with
  | some ko => rw [begun_some h, h]; simp only [set_self]; exact .more ko.1 ko.2 h
  | none =>
    cases ha : (g.acs a).acts with
    | nil => rw [begun_nil h ha, h]; exact .idle h ha
    | cons x r => rw [begun_cons h ha]; exact .begin x r h ha

theorem GX.gstep {c : Nat} {g : Gm} (h : GX c g) (hp : g.pick < 900000) (a : Nat) : GX c (gstep (q0 c) g a) := by
  obtain ⟨t, L, res, H, S, h⟩ := h
  have hs := gstep_is (q0 c) g a
  generalize Go.Proofs.Ytfhkhknnoepfeaa.gstep (q0 c) g a = g' at hs
  cases hs with
  | idle h1 h2 => exact ⟨t, L, res, H, S, h.tick⟩
  | more k o h1 =>
    rcases Nat.eq_zero_or_pos a with ha | ha
    · subst ha
      exact h.stepOwn (.inl rfl) h1 hp
    · obtain ⟨t', L', H', S', h'⟩ := h.stepThf ha (.inl rfl) h1 hp
      exact ⟨t', L', res, H', S', h'⟩
  | begin x r h1 h2 =>
    rcases Nat.eq_zero_or_pos a with ha | ha
    · subst ha
      exact (h.begin0 h1 h2).stepOwn (.inr rfl) (by rw [set_same]) hp
    · obtain ⟨t', L', H', S', h'⟩ := (h.beginN ha h1 h2).stepThf ha (.inr rfl) (by rw [set_same]) hp
      exact ⟨t', L', res, H', S', h'⟩

theorem gstep_pick (q : Q4) (g : Gm) (a : Nat) : (gstep q g a).pick = g.pick + 1 := by
  have hs := gstep_is q g a
  generalize gstep q g a = g' at hs ⊢
  cases hs <;> rfl
theorem gstep_ne (q : Q4) (g : Gm) {a b : Nat} (hb : b ≠ a) : (gstep q g a).acs b = g.acs b := by
  have hs := gstep_is q g a
  generalize gstep q g a = g' at hs ⊢
  cases hs with
  | idle h1 h2 => rfl
  | more k o h1 => exact stepped_ne hb
  | begin x r h1 h2 => rw [stepped_ne hb, set_ne hb]
/-- Nothing is lost: what an actor has no longer to do is done. -/
theorem gstep_left (q : Q4) (g : Gm) (a : Nat) : (gstep q g a).ops.length + ((gstep q g a).acs a).left = g.ops.length + (g.acs a).left := by
  have st : ∀ (g : Gm) (k : K) (o : HOp), (g.acs a).now.isSome = true → (g.stepped a k o).ops.length + ((g.stepped a k o).acs a).left = g.ops.length + (g.acs a).left := fun g k o hs => by
    unfold Ac.left
    rw [stepped_acts, hs]
    cases ho : (stepK k g.mem).1.over with
    | true => rw [(stepped_done ho).1, (stepped_done ho).2]; simp; omega
    | false => rw [(stepped_more ho).1, (stepped_more ho).2]; simp
  have hs := gstep_is q g a
  generalize gstep q g a = g' at hs ⊢
  cases hs with
  | idle h1 h2 => rfl
  | more k o h1 => exact st g k o (by rw [h1]; rfl)
  | begin x r h1 h2 =>
    rw [st _ _ _ (by rw [set_same]; rfl), set_same]
    show g.ops.length + _ = _
    unfold Ac.left
    rw [h1, h2]
    simp
theorem gstep_work {q : Q4} {g : Gm} {a : Nat} (hk : ∀ k o, (g.acs a).now = some (k, o) → k.over = false ∧ k.ok) (hi : (g.acs a).idle = false) : ((gstep q g a).acs a).work < (g.acs a).work := by
  have st : ∀ (g : Gm) (k : K) (o : HOp), (g.acs a).now = some (k, o) → k.over = false → 1 ≤ k.line → k.line ≤ 9 → ((g.stepped a k o).acs a).work < (g.acs a).work := fun g k o hs hov hl hl2 => by
    unfold Ac.work
    rw [stepped_acts, hs]
    rcases stepK_line (k := k) (s := g.mem) hov hl with ho | ho
    · rw [(stepped_done ho).2]; simp only; omega
    · cases ho2 : (stepK k g.mem).1.over with
      | true => rw [(stepped_done ho2).2]; simp only; omega
      | false => rw [(stepped_more ho2).2]; simp only; omega
  have hs := gstep_is q g a
  generalize gstep q g a = g' at hs ⊢
  cases hs with
  | idle h1 h2 => unfold Ac.idle at hi; rw [h1, h2] at hi; cases hi
  | more k o h1 => obtain ⟨h2, h3⟩ := hk k o h1; exact st g k o h1 h2 h3.line.1 h3.line.2
  | begin x r h1 h2 =>
    have hn : (newK q x).over = false ∧ (newK q x).line = 1 := by
      unfold newK
      split
      · exact ⟨rfl, rfl⟩
      · split <;> exact ⟨rfl, rfl⟩
    refine Nat.lt_of_lt_of_le (st _ (newK q x) _ (by rw [set_same]) hn.1 (by omega) (by omega)) ?_
    rw [set_same]
    unfold Ac.work
    rw [h1, h2]
    simp only [List.length_cons]
    omega

/-- An actor does what it has still to do. -/
def gdrain (q : Q4) (a : Nat) : Nat → Gm → Gm
  | 0, g => g
  | n + 1, g => if (g.acs a).idle then g else gdrain q a n (gstep q g a)
theorem gdrain_idle {q : Q4} {a : Nat} {g : Gm} (h : (g.acs a).idle = true) : ∀ n, gdrain q a n g = g
  | 0 => rfl
  | n + 1 => by rw [gdrain, if_pos h]
theorem idle_work {v : Ac} (hk : ∀ k o, v.now = some (k, o) → k.ok) (h : v.work = 0) : v.idle = true := by
  unfold Ac.work at h
  unfold Ac.idle
  cases hn : v.now with
  | none =>
    rw [hn] at h
    have : v.acts = [] := List.eq_nil_of_length_eq_zero (by simp at h; omega)
    rw [this]; rfl
  | some ko =>
    rw [hn] at h
    have := (hk ko.1 ko.2 hn).line.2
    simp only at h
    omega

theorem GX.live {c : Nat} {g : Gm} (h : GX c g) (a : Nat) : ∀ k o, (g.acs a).now = some (k, o) → k.over = false ∧ k.ok ∧ k.kind ≤ 2 := by
  obtain ⟨t, L, res, H, S, h⟩ := h
  intro k o e
  rcases Nat.eq_zero_or_pos a with ha | ha
  · subst ha
    have hO := (h.some0 k o e).2.2.1
    exact ⟨(h.some0 k o e).1, h.C.kok 0 k o e, by cases hO <;> omega⟩
  · have hO := (h.C.someN a k o ha e).2.2.1
    exact ⟨(h.C.someN a k o ha e).1, h.C.kok a k o e, by cases hO <;> omega⟩

structure Drained (c a n : Nat) (g g' : Gm) : Prop where
  gx : GX c g'
  idle : (g'.acs a).idle = true
  pick : g'.pick ≤ g.pick + n
  left : g'.ops.length + (g'.acs a).left = g.ops.length + (g.acs a).left
  others : ∀ b, b ≠ a → g'.acs b = g.acs b
theorem gdrain_spec {c a : Nat} : ∀ (n : Nat) (g : Gm), GX c g → (g.acs a).work ≤ n → g.pick + n < 900000 → Drained c a n g (gdrain (q0 c) a n g)
  | 0, g, h, hw, hp => ⟨h, idle_work (v := g.acs a) (fun k o e => (h.live a k o e).2.1) (by omega), by simp [gdrain], rfl, fun _ _ => rfl⟩
  | n + 1, g, h, hw, hp => by
    rw [gdrain]
    cases hi : (g.acs a).idle with
    | true => rw [if_pos rfl]; exact ⟨h, hi, by omega, rfl, fun _ _ => rfl⟩
    | false =>
      rw [if_neg (by simp)]
      have hw2 := gstep_work (q := q0 c) (fun k o e => ⟨(h.live a k o e).1, (h.live a k o e).2.1⟩) hi
      have hp2 := gstep_pick (q0 c) g a
      obtain ⟨a1, a2, a3, a4, a5⟩ := gdrain_spec (a := a) n _ (h.gstep (by omega) a) (by omega) (by omega)
      exact ⟨a1, a2, by omega, a4.trans (gstep_left _ _ _), fun b hb => (a5 b hb).trans (gstep_ne _ _ hb)⟩

/-- The sum of what the first n actors have to do. -/
def sumL (f : Nat → Nat) : Nat → Nat
  | 0 => 0
  | n + 1 => sumL f n + f n
theorem sumL_congr {f f' : Nat → Nat} : ∀ {n : Nat}, (∀ b, b < n → f b = f' b) → sumL f n = sumL f' n
  | 0, _ => rfl
  | n + 1, h => by rw [sumL, sumL, sumL_congr (fun b hb => h b (by omega)), h n (by omega)]
theorem sumL_one {f f' : Nat → Nat} {a : Nat} : ∀ {n : Nat}, a < n → (∀ b, b ≠ a → f b = f' b) → sumL f n + f' a = sumL f' n + f a
  | 0, h, _ => by omega
  | n + 1, h, hb => by
    rw [sumL, sumL]
    by_cases e : a = n
    · subst e
      rw [sumL_congr (fun b hb2 => hb b (by omega))]
      omega
    · have := sumL_one (n := n) (by omega) hb
      have := hb n (fun e2 => e e2.symm)
      omega
def Gm.todo (g : Gm) (n : Nat) : Nat := g.ops.length + sumL (fun a => (g.acs a).left) n
def Gm.cost (g : Gm) (n : Nat) : Nat := sumL (fun a => (g.acs a).work) n

/-- The first k actors do what they have still to do, one behind the other. -/
def gall (q : Q4) (g : Gm) : Nat → Gm
  | 0 => g
  | k + 1 => gdrain q k ((gall q g k).acs k).work (gall q g k)

theorem gall_spec {c n : Nat} {g : Gm} (h : GX c g) (hp : g.pick + g.cost n < 900000) : ∀ k, k ≤ n → GX c (gall (q0 c) g k) ∧ (∀ a, a < k → ((gall (q0 c) g k).acs a).idle = true) ∧ (∀ a, k ≤ a → (gall (q0 c) g k).acs a = g.acs a) ∧ (gall (q0 c) g k).pick ≤ g.pick + sumL (fun a => (g.acs a).work) k ∧ (gall (q0 c) g k).todo n = g.todo n
  | 0, _ => ⟨h, fun a ha => by omega, fun _ _ => rfl, by simp [gall], rfl⟩
  | k + 1, hk => by
    obtain ⟨a1, a2, a3, a4, a5⟩ := gall_spec h hp k (by omega)
    have hm : ∀ m, k + 1 ≤ m → sumL (fun a => (g.acs a).work) (k + 1) ≤ sumL (fun a => (g.acs a).work) m := by
      intro m
      induction m with
      | zero => intro h; omega
      | succ m ih =>
        intro h
        by_cases e : k = m
        · subst e; exact Nat.le_refl _
        · rw [show sumL (fun a => (g.acs a).work) (m + 1) = sumL (fun a => (g.acs a).work) m + (g.acs m).work from rfl]
          have := ih (by omega)
          omega
    have hs : sumL (fun a => (g.acs a).work) (k + 1) = sumL (fun a => (g.acs a).work) k + (g.acs k).work := rfl
    have hmn := hm n hk
    unfold Gm.cost at hp
    rw [gall, a3 k (Nat.le_refl _)]
    obtain ⟨b1, b2, b3, b4, b5⟩ := gdrain_spec (a := k) (g.acs k).work _ a1 (by rw [a3 k (Nat.le_refl _)]; exact Nat.le_refl _) (by omega)
    refine ⟨b1, fun a ha => ?_, fun a ha => by rw [b5 a (by omega)]; exact a3 a (by omega), by omega, ?_⟩
    · by_cases e : a = k
      · subst e; exact b2
      · rw [b5 a e]; exact a2 a (by omega)
    · rw [← a5]
      unfold Gm.todo
      have := sumL_one (f := fun a => ((gdrain (q0 c) k (g.acs k).work (gall (q0 c) g k)).acs a).left) (f' := fun a => ((gall (q0 c) g k).acs a).left) (a := k) (n := n) (by omega) (fun b hb => by rw [b5 b hb])
      omega

/-- The picks of the game. -/
def gpicks (q : Q4) (g : Gm) : List Nat → Gm
  | [] => g
  | a :: r => gpicks q (gstep q g a) r
theorem gpicks_spec {c n : Nat} : ∀ (l : List Nat) (g : Gm), GX c g → (∀ a ∈ l, a < n) → g.pick + l.length < 900000 → GX c (gpicks (q0 c) g l) ∧ (gpicks (q0 c) g l).pick = g.pick + l.length ∧ (∀ a, n ≤ a → (gpicks (q0 c) g l).acs a = g.acs a) ∧ (gpicks (q0 c) g l).todo n = g.todo n ∧ (∀ a, ((gpicks (q0 c) g l).acs a).work ≤ (g.acs a).work)
  | [], g, h, _, _ => ⟨h, rfl, fun _ _ => rfl, rfl, fun _ => Nat.le_refl _⟩
  | a :: r, g, h, hl, hp => by
    have h1 := gstep_pick (q0 c) g a
    simp only [List.length_cons] at hp ⊢
    have ha := hl a (by simp)
    obtain ⟨a1, a2, a3, a4, a5⟩ := gpicks_spec (n := n) r _ (h.gstep (by omega) a) (fun b hb => hl b (by simp [hb])) (by omega)
    refine ⟨a1, by rw [gpicks, a2, h1]; omega, fun b hb => by rw [gpicks, a3 b hb]; exact gstep_ne _ _ (by omega), ?_, fun b => Nat.le_trans (a5 b) ?_⟩
    · rw [gpicks, a4]
      unfold Gm.todo
      have := sumL_one (f := fun b => ((gstep (q0 c) g a).acs b).left) (f' := fun b => (g.acs b).left) (a := a) (n := n) ha (fun b hb => by rw [gstep_ne _ _ hb])
      have := gstep_left (q0 c) g a
      omega
    · by_cases e : b = a
      · subst e
        cases hi : (g.acs b).idle with
        | true =>
          have hs := gstep_is (q0 c) g b
          generalize gstep (q0 c) g b = g' at hs ⊢
          unfold Ac.idle at hi
          cases hs with
          | idle h1 h2 => exact Nat.le_refl _
          | more k o h1 => rw [h1] at hi; simp at hi
          | begin x r h1 h2 => rw [h2] at hi; simp at hi
        | false => exact Nat.le_of_lt (gstep_work (fun k o e => ⟨(h.live b k o e).1, (h.live b k o e).2.1⟩) hi)
      · rw [gstep_ne _ _ e]; exact Nat.le_refl _

/-- The start. -/
def gstart (c : Nat) (acts : Nat → List (Int × Int)) : Gm := ⟨⟨zerosN (2 + c), 0, 0, 0, 0, 0⟩, fun a => ⟨acts a, none⟩, 0, []⟩
theorem zerosN_at (n : Nat) (x y z u v d : Int) : (⟨zerosN n, x, y, z, u, v⟩ : MS).at d = 0 := by
  unfold MS.at zerosN
  split
  · simp only [List.getD_eq_getElem?_getD, List.getElem?_replicate]
    split <;> rfl
  · rfl
theorem gstart_gx {c : Nat} {acts : Nat → List (Int × Int)} (hc : 1 ≤ c) (hc2 : c < 1000) (h0 : ∀ x ∈ acts 0, (x.1 = 0 ∨ x.1 = 1) ∧ inI x.2) (hN : ∀ a, 0 < a → ∀ x ∈ acts a, x.1 = 2) : GX c (gstart c acts) := by
  refine ⟨0, [], none, [], [], ⟨⟨hc, hc2, by simp [gstart, zerosN]; omega, zerosN_at _ _ _ _ _ _ _, by simp, fun i hi => by simp at hi⟩, by simp, (fun a k o _ e => by cases e), (fun a k o e => by cases e), h0, hN, ?_, (fun a k o e => by cases e)⟩,
    fun _ => ⟨rfl, zerosN_at _ _ _ _ _ _ _⟩, (fun k o e => by cases e), by simp, (fun o ho => by cases ho), .nil, rfl, by simp, by simp, fun h => absurd rfl h, (fun a k o _ e => by cases e), (fun o ho => by cases ho)⟩
  intro x hx
  simp only [gstart, zerosN] at hx
  rw [List.mem_replicate] at hx
  rw [hx.2]
  omega

/-- The whole game: its operations. -/
def gplay (c n : Nat) (acts : Nat → List (Int × Int)) (picks : List Nat) : List HOp := (gall (q0 c) (gpicks (q0 c) (gstart c acts) picks) n).ops

structure Played (c : Nat) (ops : List HOp) (total : Nat) : Prop where
  len : ops.length = total
  formed : ∀ o ∈ ops, o.formed = true
  orders : Orders c ops
  abort : ∀ o ∈ ops, o.code = 4 → o.kind = 2 ∧ ∃ r ∈ ops, r.code = 1 ∧ o.frm < r.to ∧ r.frm < o.to

theorem gplay_spec {c n : Nat} {acts : Nat → List (Int × Int)} {picks : List Nat} (hc : 1 ≤ c) (hc2 : c < 1000) (hn : 1 ≤ n) (h0 : ∀ x ∈ acts 0, (x.1 = 0 ∨ x.1 = 1) ∧ inI x.2) (hN : ∀ a, 0 < a → ∀ x ∈ acts a, x.1 = 2)
    (hp : ∀ a ∈ picks, a < n) (hb : picks.length + 10 * sumL (fun a => (acts a).length) n < 900000) : Played c (gplay c n acts picks) (sumL (fun a => (acts a).length) n) := by
  obtain ⟨a1, a2, a3, a4, a5⟩ := gpicks_spec (n := n) picks _ (gstart_gx hc hc2 h0 hN) hp (by show 0 + _ < _; omega)
  have hcost : ∀ m, sumL (fun a => ((gpicks (q0 c) (gstart c acts) picks).acs a).work) m ≤ 10 * sumL (fun a => (acts a).length) m := by
    intro m
    induction m with
    | zero => exact Nat.le_refl _
    | succ m ih =>
      have h2 := a5 m
      have h3 : ((gstart c acts).acs m).work = 10 * (acts m).length := rfl
      rw [sumL, sumL]
      omega
  obtain ⟨b1, b2, b3, b4, b5⟩ := gall_spec a1 (n := n) (by
    have h2 := hcost n
    have h3 : (gstart c acts).pick = 0 := rfl
    unfold Gm.cost
    omega) n (Nat.le_refl _)
  have hall : ∀ a, a < n → ((gall (q0 c) (gpicks (q0 c) (gstart c acts) picks) n).acs a).left = 0 := fun a ha => by
    have := b2 a ha
    unfold Ac.idle at this
    rw [Bool.and_eq_true, Option.isNone_iff_eq_none, List.isEmpty_iff] at this
    unfold Ac.left
    rw [this.1, this.2]; rfl
  have hnow : ((gall (q0 c) (gpicks (q0 c) (gstart c acts) picks) n).acs 0).now = none := by
    have := b2 0 (by omega)
    unfold Ac.idle at this
    rw [Bool.and_eq_true, Option.isNone_iff_eq_none] at this
    exact this.1
  obtain ⟨t, L, res, H, S, h⟩ := b1
  have hres := (h.none0 hnow).1
  have hS : S = [] := by
    cases S with
    | nil => rfl
    | cons s r => obtain ⟨_, ⟨k2, o2, e2, _⟩, _⟩ := h.crit (by simp); rw [hnow] at e2; cases e2
  subst hS hres
  refine ⟨?_, fun o ho => (h.ops o ho).1, ⟨H, L, ?_, h.run, by simpa using h.pw⟩, fun o ho hcd => ?_⟩
  · have e1 := b5.trans a4
    unfold Gm.todo at e1
    rw [show sumL (fun a => ((gall (q0 c) (gpicks (q0 c) (gstart c acts) picks) n).acs a).left) n = 0 from by
      have : ∀ m, m ≤ n → sumL (fun a => ((gall (q0 c) (gpicks (q0 c) (gstart c acts) picks) n).acs a).left) m = 0 := by
        intro m
        induction m with
        | zero => intro _; rfl
        | succ m ih => intro hm; rw [sumL, ih (by omega), hall m (by omega)]
      exact this n (Nat.le_refl _)] at e1
    have e2 : (gstart c acts).ops.length = 0 := rfl
    rw [e2] at e1
    have e3 : sumL (fun a => ((gstart c acts).acs a).left) n = sumL (fun a => (acts a).length) n := sumL_congr (fun b _ => rfl)
    unfold gplay
    omega
  · have := h.perm
    rw [hnow] at this
    simp only [pendL, List.append_nil] at this
    exact this
  · obtain ⟨h1, h2⟩ := h.abort o ho hcd
    refine ⟨h1, ?_⟩
    rcases h2 with h2 | ⟨h2, _⟩
    · exact h2
    · cases h2
end Go.Proofs.Ytfhkhknnoepfeaa
