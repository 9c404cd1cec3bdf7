/- The game of an owner and thieves on one deque, plain: its operations can be put in an order that a deque can perform. -/
import Derived.Test.YtfhkhknnoepfeaaOnceP
import Derived.Test.YtfhkhknnoepfeaaHistLinP
namespace Go.Proofs.Ytfhkhknnoepfeaa
open Go.RowKit

/-- The list after operations in this order. -/
def runH (cap : Int) : List HOp → List Int → Option (List Int)
  | [], l => some l
  | o :: r, l => match o.act l cap with
    | none => none
    | some l' => runH cap r l'

theorem runH_app {cap : Int} : ∀ {a b : List HOp} {l l' : List Int}, runH cap a l = some l' → runH cap (a ++ b) l = runH cap b l'
  | [], b, l, l', h => by cases h; rfl
  | o :: r, b, l, l', h => by
    simp only [runH, List.cons_append] at h ⊢
    cases ha : o.act l cap with
    | none => rw [ha] at h; cases h
    | some l2 => rw [ha] at h; exact runH_app h
theorem runH_one {cap : Int} {o : HOp} {l l' : List Int} (h : o.act l cap = some l') : runH cap [o] l = some l' := by simp only [runH, h]
theorem runH_add {cap : Int} {a b : List HOp} {l l1 l2 : List Int} (h1 : runH cap a l = some l1) (h2 : runH cap b l1 = some l2) : runH cap (a ++ b) l = some l2 := by rw [runH_app h1, h2]

theorem perm_map {α β : Type} {f : α → β} : ∀ {σ : List β} {τ : List β}, σ.Perm τ → ∀ l : List α, τ = l.map f → ∃ m : List α, m.Perm l ∧ σ = m.map f := by
  intro σ τ h
  induction h with
  | nil => intro l e; cases l with
    | nil => exact ⟨[], .nil, rfl⟩
    | cons a r => cases e
  | cons x h ih =>
    intro l e
    cases l with
    | nil => cases e
    | cons a r =>
      simp only [List.map_cons, List.cons.injEq] at e
      obtain ⟨m, hm, e2⟩ := ih r e.2
      exact ⟨a :: m, hm.cons a, by rw [e2, List.map_cons, e.1]⟩
  | swap x y s =>
    intro l e
    match l, e with
    | a :: b :: r, e =>
      simp only [List.map_cons, List.cons.injEq] at e
      exact ⟨b :: a :: r, .swap .., by rw [List.map_cons, List.map_cons, e.1, e.2.1, e.2.2]⟩
  | trans h1 h2 ih1 ih2 =>
    intro l e
    obtain ⟨m, hm, e2⟩ := ih2 l e
    obtain ⟨m', hm', e3⟩ := ih1 m e2
    exact ⟨m', hm'.trans hm, e3⟩

/-- An order, told by its list, is one. -/
theorem ordr_of {f : Nat → HOp} {n : Nat} {cap : Int} (hf : ∀ i, i < n → (f i).formed = true) : ∀ (τ : List Nat) (used : Nat → Bool) (l l' : List Int),
    (∀ i, i < n → (used i = false ↔ i ∈ τ)) → τ.Nodup → (∀ i ∈ τ, i < n) → (τ.map f).Pairwise (fun a b => a.frm ≤ b.to) → runH cap (τ.map f) l = some l' → ordr f n cap τ.length used l = true
  | [], _, _, _, _, _, _, _, _ => rfl
  | i :: r, used, l, l', hu, hn, hb, hp, hr => by
    have hi := hb i (by simp)
    simp only [List.map_cons, runH] at hr
    simp only [List.map_cons, List.pairwise_cons] at hp
    rw [List.nodup_cons] at hn
    cases ha : (f i).act l cap with
    | none => rw [ha] at hr; cases hr
    | some l2 =>
      rw [ha] at hr
      refine ordr_succ.2 ⟨i, hi, (hu i hi).2 (by simp), ?_, l2, ha, ordr_of hf r _ l2 l' (fun j hj => ?_) hn.2 (fun j hj => hb j (by simp [hj])) hp.2 hr⟩
      · unfold firstU
        rw [List.all_eq_true]
        intro j hj
        rw [List.mem_range] at hj
        rw [Bool.or_eq_true, decide_eq_true_eq]
        cases e : used j with
        | true => exact .inl rfl
        | false =>
          right
          have := (hu j hj).1 e
          rw [List.mem_cons] at this
          rcases this with h | h
          · subst h
            have := hf j hj
            simp only [HOp.formed, Bool.and_eq_true, decide_eq_true_eq] at this
            exact this.1.1.2
          · exact hp.1 _ (List.mem_map.2 ⟨j, h, rfl⟩)
      · have h1 := hu j hj
        rw [List.mem_cons] at h1
        unfold setU
        by_cases e : j = i
        · subst e; simp [hn.1]
        · simp only [e, decide_false, Bool.or_false, false_or] at h1 ⊢; exact h1

/-- The operations ops can be put in an order. -/
def Orders (cap : Int) (ops : List HOp) : Prop := ∃ σ l, σ.Perm ops ∧ runH cap σ [] = some l ∧ σ.Pairwise (fun a b => a.frm ≤ b.to)

instance hopInh : Inhabited HOp := ⟨⟨0, 0, 0, 0, 0, 0⟩⟩
theorem map_getD (ops : List HOp) (z : HOp) : ops = (List.range ops.length).map (fun i => ops.getD i z) := by
  apply List.ext_getElem
  · simp
  · intro i h1 h2
    simp [h1]

theorem Orders.ordr {cap : Int} {ops : List HOp} (z : HOp) (h : Orders cap ops) (hf : ∀ o ∈ ops, o.formed = true) : ordr (fun i => ops.getD i z) ops.length cap ops.length (fun _ => false) [] = true := by
  obtain ⟨σ, l, hp, hr, hw⟩ := h
  obtain ⟨m, hm, e⟩ := perm_map hp (List.range ops.length) (map_getD ops z)
  have hl : m.length = ops.length := by rw [hm.length_eq]; simp
  have := ordr_of (f := fun i => ops.getD i z) (n := ops.length) (cap := cap) (fun i hi => by
    show (ops.getD i z).formed = true
    rw [List.getD_eq_getElem?_getD, List.getElem?_eq_getElem hi]
    exact hf _ (List.getElem_mem hi)) m (fun _ => false) [] l (fun i hi => ⟨fun _ => hm.mem_iff.2 (List.mem_range.2 hi), fun _ => rfl⟩) (hm.nodup_iff.2 List.nodup_range) (fun i hi => List.mem_range.1 (hm.mem_iff.1 hi)) (by rw [← e]; exact hw) (by rw [← e]; exact hr)
  rwa [hl] at this

/-- An actor: what it is still to do (kinds and values), its machine and its operation. -/
structure Ac where
  acts : List (Int × Int)
  now : Option (K × HOp)

/-- The game: the memory, the actors, the number of the pick, the operations that are done. -/
structure Gm where
  mem : MS
  acs : Nat → Ac
  pick : Nat
  ops : List HOp

def newK (q : Q4) (x : Int × Int) : K := if x.1 = 0 then newPush q x.2 else if x.1 = 1 then newPop q else newSteal q
def op0 (a pick : Nat) (x : Int × Int) : HOp := ⟨x.1, a, pick, 0, 0, if x.1 = 0 then x.2 else 0⟩
def finO (o : HOp) (pick : Nat) (code val : Int) : HOp := { o with to := pick, code := code, value := if code = 1 then val else o.value }

/-- The actor when it has begun, if it can. -/
def Gm.begun (q : Q4) (g : Gm) (a : Nat) : Ac := match (g.acs a).now with
  | some _ => g.acs a
  | none => match (g.acs a).acts with
    | [] => g.acs a
    | x :: r => ⟨r, some (newK q x, op0 a g.pick x)⟩

/-- A step of actor a's machine k. -/
def Gm.stepped (g : Gm) (a : Nat) (k : K) (o : HOp) : Gm :=
  { mem := (stepK k g.mem).2, pick := g.pick + 1,
    acs := upd g.acs a ⟨(g.acs a).acts, if (stepK k g.mem).1.over then none else some ((stepK k g.mem).1, o)⟩,
    ops := if (stepK k g.mem).1.over then g.ops ++ [finO o g.pick (stepK k g.mem).1.code (stepK k g.mem).1.val] else g.ops }

def Gm.set (g : Gm) (a : Nat) (v : Ac) : Gm := { g with acs := upd g.acs a v }
theorem set_same {g : Gm} {a : Nat} {v : Ac} : (g.set a v).acs a = v := upd_same _ _ _
theorem set_ne {g : Gm} {a b : Nat} {v : Ac} (h : b ≠ a) : (g.set a v).acs b = g.acs b := upd_ne h

/-- A pick of actor a. -/
def gstep (q : Q4) (g : Gm) (a : Nat) : Gm := match (g.begun q a).now with
  | none => { g with pick := g.pick + 1 }
  | some (k, o) => (g.set a (g.begun q a)).stepped a k o

def farM : Int := 1000000000
def pendO (o : HOp) (x : Int) : HOp := { o with to := farM, code := 1, value := x }
/-- The pop that has got its entry and is not yet done. -/
def pendL : Option (K × HOp) → Option Int → List HOp
  | some (_, o), some x => [pendO o x]
  | _, _ => []

/-- What holds after every pick, the order set aside. -/
structure GC (c : Nat) (e : Option Nat) (g : Gm) (t : Nat) (L : List Int) : Prop where
  B : Base g.mem c t L
  tb : t ≤ g.pick
  someN : ∀ a k o, 0 < a → (g.acs a).now = some (k, o) → k.over = false ∧ k.q = q0 c ∧ Thf 0 t L k ∧ o.kind = 2
  fr : ∀ a k o, (g.acs a).now = some (k, o) → 0 ≤ o.mach ∧ 0 ≤ o.frm ∧ o.frm ≤ g.pick ∧ (e ≠ some a → o.frm < g.pick)
  acts0 : ∀ x ∈ (g.acs 0).acts, (x.1 = 0 ∨ x.1 = 1) ∧ inI x.2
  actsN : ∀ a, 0 < a → ∀ x ∈ (g.acs a).acts, x.1 = 2
  sok : g.mem.ok
  kok : ∀ a k o, (g.acs a).now = some (k, o) → k.ok

/-- What holds after every pick. H: an order of the operations; S: steals behind it that found nothing while the last entry was being taken. -/
structure GN (c : Nat) (e : Option Nat) (g : Gm) (t : Nat) (L : List Int) (res : Option Int) (H S : List HOp) : Prop where
  C : GC c e g t L
  none0 : (g.acs 0).now = none → res = none ∧ g.mem.at 1 = t + L.length
  some0 : ∀ k o, (g.acs 0).now = some (k, o) → k.over = false ∧ k.q = q0 c ∧ Own g.mem c t L k res ∧ (k.kind : Int) = o.kind ∧ (k.kind = 0 → k.a = o.value ∧ inI k.a)
  vals : ∀ x ∈ L ++ res.toList, inI x
  ops : ∀ o ∈ g.ops, o.formed = true ∧ o.to < g.pick
  perm : (H ++ S).Perm (g.ops ++ pendL (g.acs 0).now res)
  run : runH c H [] = some L
  pw : (H ++ S).Pairwise (fun a b => a.frm ≤ b.to)
  still : ∀ s ∈ S, s.kind = 2 ∧ (s.code = 2 ∨ s.code = 4)
  crit : S ≠ [] → (∃ x, L = [x]) ∧ (∃ k o, (g.acs 0).now = some (k, o) ∧ k.kind = 1 ∧ (k.line = 4 ∨ k.line = 6) ∧ ∀ s ∈ S, o.frm ≤ s.to) ∧ ∀ a k o, 0 < a → (g.acs a).now = some (k, o) → 3 ≤ k.line → k.v = t → ∀ s ∈ S, o.frm ≤ s.to
  late : ∀ a k o, 0 < a → (g.acs a).now = some (k, o) → 2 ≤ k.line → k.v < t → (∃ r ∈ g.ops, r.code = 1 ∧ o.frm < r.to) ∨ res.isSome = true
  abort : ∀ o ∈ g.ops, o.code = 4 → o.kind = 2 ∧ ((∃ r ∈ g.ops, r.code = 1 ∧ o.frm < r.to ∧ r.frm < o.to) ∨ (res.isSome = true ∧ ∃ k p, (g.acs 0).now = some (k, p) ∧ p.frm < o.to))

theorem stepped_more {g : Gm} {a : Nat} {k : K} {o : HOp} (h : (stepK k g.mem).1.over = false) : (g.stepped a k o).ops = g.ops ∧ ((g.stepped a k o).acs a).now = some ((stepK k g.mem).1, o) := by
  unfold Gm.stepped; simp only [h, upd_same]; exact ⟨rfl, rfl⟩
theorem stepped_done {g : Gm} {a : Nat} {k : K} {o : HOp} (h : (stepK k g.mem).1.over = true) : (g.stepped a k o).ops = g.ops ++ [finO o g.pick (stepK k g.mem).1.code (stepK k g.mem).1.val] ∧ ((g.stepped a k o).acs a).now = none := by
  unfold Gm.stepped; simp only [h, upd_same]; exact ⟨rfl, rfl⟩
theorem stepped_ne {g : Gm} {a b : Nat} {k : K} {o : HOp} (h : b ≠ a) : (g.stepped a k o).acs b = g.acs b := upd_ne h
theorem stepped_acts {g : Gm} {a b : Nat} {k : K} {o : HOp} : ((g.stepped a k o).acs b).acts = (g.acs b).acts := by
  by_cases h : b = a
  · subst h; show (upd g.acs b _ b).acts = _; rw [upd_same]
  · rw [stepped_ne h]
theorem stepped_now {g : Gm} {a : Nat} {k k' : K} {o o' : HOp} (h : ((g.stepped a k o).acs a).now = some (k', o')) : (stepK k g.mem).1.over = false ∧ k' = (stepK k g.mem).1 ∧ o' = o := by
  cases e : (stepK k g.mem).1.over with
  | true => rw [(stepped_done e).2] at h; cases h
  | false => rw [(stepped_more e).2] at h; cases h; exact ⟨rfl, rfl, rfl⟩
theorem stepped_mem {g : Gm} {a : Nat} {k : K} {o : HOp} : (g.stepped a k o).mem = (stepK k g.mem).2 := rfl
theorem stepped_pick {g : Gm} {a : Nat} {k : K} {o : HOp} : (g.stepped a k o).pick = g.pick + 1 := rfl

/-- What a thief's step is, line by line. -/
theorem thf_info {s : MS} {c t0 t : Nat} {L : List Int} {k : K} (h : Thf t0 t L k) (ho : k.over = false) (hq : k.q = q0 c) :
    (k.line = 1 ∧ (stepK k s).1.over = false ∧ (stepK k s).1.line = 2 ∧ (stepK k s).1.v = s.at 0) ∨
    (k.line = 2 ∧ sz (s.at 1) k.v ≤ 0 ∧ (stepK k s).1.over = true ∧ (stepK k s).1.code = 2) ∨
    (k.line = 2 ∧ 0 < sz (s.at 1) k.v ∧ (stepK k s).1.over = false ∧ (stepK k s).1.line = 3 ∧ (stepK k s).1.v = k.v) ∨
    (k.line = 3 ∧ (stepK k s).1.over = false ∧ (stepK k s).1.line = 4 ∧ (stepK k s).1.v = k.v) ∨
    (k.line = 4 ∧ (stepK k s).1.over = true ∧ (stepK k s).1.code ≠ 2) := by
  have qt : k.q.top = 0 := by rw [hq]; rfl
  have qb : k.q.bot = 1 := by rw [hq]; rfl
  have hk2 : k.kind = 2 := by cases h <;> assumption
  rw [stepK_steal ho hk2]
  unfold stepSteal
  cases h with
  | l1 h0 hl => rw [hl]; simp only [qt, ho]; simp
  | l2 h0 hl v hv hd hle =>
    rw [hl]; simp only [qb]
    by_cases hs : sz (s.at 1) k.v ≤ 0
    · simp only [if_pos hs]; simp [K.fin]; omega
    · simp only [if_neg hs]; simp [ho]; omega
  | l3 h0 hl v hv hd hle hne => rw [hl]; simp [ho]
  | l4 h0 hl v hv hd hle hne =>
    rw [hl]
    by_cases hs : (s.has k.q.top && s.at k.q.top == k.v) = true
    · simp only [if_pos hs]; simp [K.fin]
    · simp only [if_neg hs]; simp [K.fin]

section
variable {c : Nat} {e : Option Nat} {g : Gm} {t : Nat} {L : List Int} {res : Option Int} {H S : List HOp}

theorem GN.noS (h : GN c e g t L res H S) {k : K} {o : HOp} (hk : (g.acs 0).now = some (k, o)) (hne : ¬ (k.kind = 1 ∧ (k.line = 4 ∨ k.line = 6) ∧ ∃ x, L = [x])) : S = [] := by
  cases S with
  | nil => rfl
  | cons s r =>
    obtain ⟨h1, ⟨k2, o2, e2, h2, h3, _⟩, _⟩ := h.crit (by simp)
    rw [hk] at e2
    cases e2
    exact absurd ⟨h2, h3, h1⟩ hne

/-- Steals that found nothing leave an empty list as it is. -/
theorem still_run : ∀ (S : List HOp), (∀ s ∈ S, s.kind = 2 ∧ (s.code = 2 ∨ s.code = 4)) → runH c S [] = some []
  | [], _ => rfl
  | s :: r, h => by
    have h1 := h s (by simp)
    have h2 : s.act [] c = some [] := by
      unfold HOp.act
      rcases h1.2 with e | e
      · rw [if_neg (by omega), if_neg (by omega), if_pos e, if_pos rfl]
      · rw [if_neg (by omega), if_neg (by omega), if_neg (by omega), if_pos e]
    simp only [runH, h2]
    exact still_run r (fun s hs => h s (by simp [hs]))

theorem newK_ok {x : Int × Int} (h : c ≤ 1000000) : (newK (q0 c) x).ok := by
  unfold newK
  split
  · exact newPush_ok0 _ h
  · split
    · exact newPop_ok0 h
    · exact newSteal_ok0 h

theorem GN.begin0 (h : GN c none g t L res H S) (hn : (g.acs 0).now = none) {x : Int × Int} {r : List (Int × Int)} (ha : (g.acs 0).acts = x :: r) :
    GN c (some 0) (g.set 0 ⟨r, some (newK (q0 c) x, op0 0 g.pick x)⟩) t L res H S := by
  obtain ⟨hr, hb⟩ := h.none0 hn
  subst hr
  have hx := h.C.acts0 x (by rw [ha]; simp)
  have hcap := h.C.B.cap
  have hS : S = [] := by
    cases S with
    | nil => rfl
    | cons s r =>
      obtain ⟨_, ⟨k2, o2, e2, _⟩, _⟩ := h.crit (by simp)
      rw [hn] at e2; cases e2
  subst hS
  refine ⟨⟨h.C.B, h.C.tb, fun a k o h0 e2 => h.C.someN a k o h0 (by rw [set_ne (by omega)] at e2; exact e2), fun a k o e2 => ?_, fun y hy => ?_, fun a h0 y hy => h.C.actsN a h0 y (by rw [set_ne (by omega)] at hy; exact hy), h.C.sok, fun a k o e2 => ?_⟩,
    (fun e2 => by rw [set_same] at e2; cases e2), fun k o e2 => ?_, h.vals, h.ops, ?_, h.run, h.pw, h.still, fun h0 => absurd rfl h0, fun a k o h0 e2 => h.late a k o h0 (by rw [set_ne (by omega)] at e2; exact e2), fun o ho hc => ?_⟩
  · by_cases g0 : a = 0
    · subst g0
      rw [set_same] at e2
      cases e2
      exact ⟨by simp [op0], by simp [op0], by simp [op0, Gm.set], fun g1 => absurd rfl g1⟩
    · rw [set_ne g0] at e2
      obtain ⟨a1, a2, a3, a4⟩ := h.C.fr a k o e2
      exact ⟨a1, a2, a3, fun _ => a4 (by simp)⟩
  · rw [set_same] at hy
    exact h.C.acts0 y (by rw [ha]; simp; exact .inr hy)
  · by_cases g0 : a = 0
    · subst g0
      rw [set_same] at e2
      cases e2
      exact newK_ok (by omega)
    · rw [set_ne g0] at e2
      exact h.C.kok a k o e2
  · rw [set_same] at e2
    cases e2
    rcases hx.1 with g0 | g0
    · have : newK (q0 c) x = newPush (q0 c) x.2 := by unfold newK; rw [if_pos g0]
      rw [this]
      exact ⟨rfl, rfl, .push1 rfl rfl hb, by simp [newPush, op0, g0], fun _ => ⟨by simp [newPush, op0, g0], hx.2⟩⟩
    · have : newK (q0 c) x = newPop (q0 c) := by unfold newK; rw [if_neg (by omega), if_pos g0]
      rw [this]
      exact ⟨rfl, rfl, .pop1 rfl rfl hb, by simp [newPop, op0, g0], fun g1 => by simp [newPop] at g1⟩
  · have := h.perm
    rw [hn] at this
    show (H ++ []).Perm (g.ops ++ pendL ((g.set 0 _).acs 0).now none)
    rw [set_same]
    exact this
  · obtain ⟨h1, h2⟩ := h.abort o ho hc
    refine ⟨h1, ?_⟩
    rcases h2 with h2 | ⟨h2, _⟩
    · exact .inl h2
    · cases h2

theorem GN.beginN {a : Nat} (h : GN c none g t L res H S) (h0 : 0 < a) (hn : (g.acs a).now = none) {x : Int × Int} {r : List (Int × Int)} (ha : (g.acs a).acts = x :: r) :
    GN c (some a) (g.set a ⟨r, some (newK (q0 c) x, op0 a g.pick x)⟩) t L res H S := by
  have hx := h.C.actsN a h0 x (by rw [ha]; simp)
  have hcap := h.C.B.cap
  have hnew : newK (q0 c) x = newSteal (q0 c) := by unfold newK; rw [if_neg (by omega), if_neg (by omega)]
  rw [hnew]
  have u0 : ∀ v : Ac, (g.set a v).acs 0 = g.acs 0 := fun v => set_ne (by omega)
  refine ⟨⟨h.C.B, h.C.tb, fun b k o hb e2 => ?_, fun b k o e2 => ?_, fun y hy => h.C.acts0 y (by rw [u0] at hy; exact hy), fun b hb y hy => ?_, h.C.sok, fun b k o e2 => ?_⟩,
    fun e2 => h.none0 (by rw [u0] at e2; exact e2), fun k o e2 => h.some0 k o (by rw [u0] at e2; exact e2), h.vals, h.ops, ?_, h.run, h.pw, h.still, fun hS => ?_, fun b k o hb e2 hl hv => ?_, fun o ho hc => ?_⟩
  · by_cases g0 : b = a
    · subst g0
      rw [set_same] at e2
      cases e2
      exact ⟨rfl, rfl, .l1 rfl rfl, hx⟩
    · rw [set_ne g0] at e2; exact h.C.someN b k o hb e2
  · by_cases g0 : b = a
    · subst g0
      rw [set_same] at e2
      cases e2
      exact ⟨by simp [op0], by simp [op0], by simp [op0, Gm.set], fun g1 => absurd rfl g1⟩
    · rw [set_ne g0] at e2
      obtain ⟨a1, a2, a3, a4⟩ := h.C.fr b k o e2
      exact ⟨a1, a2, a3, fun _ => a4 (by simp)⟩
  · by_cases g0 : b = a
    · subst g0
      rw [set_same] at hy
      exact h.C.actsN b hb y (by rw [ha]; simp; exact .inr hy)
    · rw [set_ne g0] at hy; exact h.C.actsN b hb y hy
  · by_cases g0 : b = a
    · subst g0
      rw [set_same] at e2
      cases e2
      exact newSteal_ok0 (by omega)
    · rw [set_ne g0] at e2
      exact h.C.kok b k o e2
  · have := h.perm
    show (H ++ S).Perm (g.ops ++ pendL ((g.set a _).acs 0).now res)
    rw [u0]
    exact this
  · obtain ⟨c1, ⟨k, o, c2, c3⟩, c4⟩ := h.crit hS
    refine ⟨c1, ⟨k, o, by rw [u0]; exact c2, c3⟩, fun b k o hb e2 hl => ?_⟩
    by_cases g0 : b = a
    · subst g0
      rw [set_same] at e2
      cases e2
      simp [newSteal] at hl
    · rw [set_ne g0] at e2
      exact c4 b k o hb e2 hl
  · by_cases g0 : b = a
    · subst g0
      rw [set_same] at e2
      cases e2
      simp [newSteal] at hl
    · rw [set_ne g0] at e2
      exact h.late b k o hb e2 hl hv
  · obtain ⟨h1, h2⟩ := h.abort o ho hc
    refine ⟨h1, ?_⟩
    rcases h2 with h2 | ⟨h2, k, p, h3, h4⟩
    · exact .inl h2
    · exact .inr ⟨h2, k, p, by rw [u0]; exact h3, h4⟩

theorem GC.own (h : GC c e g t L) {k k' : K} {o : HOp} (hk : (g.acs 0).now = some (k, o)) {t' : Nat} {L' : List Int} {res res' : Option Int}
    (hs : OStep (stepK k g.mem).2 c t L res k k' t' L' res') (hB : Base (stepK k g.mem).2 c t' L') : GC c none (g.stepped 0 k o) t' L' := by
  have hm := hs.mono
  have htb := h.tb
  refine ⟨hB, by rw [stepped_pick]; omega, fun a k o h0 e2 => ?_, fun a k2 o2 e2 => ?_, fun y hy => h.acts0 y (by rw [stepped_acts] at hy; exact hy), fun a h0 y hy => h.actsN a h0 y (by rw [stepped_acts] at hy; exact hy), stepK_mok h.sok (h.kok 0 k o hk), fun a k2 o2 e2 => ?_⟩
  · rw [stepped_ne (by omega)] at e2
    obtain ⟨a1, a2, a3, a4⟩ := h.someN a k o h0 e2
    exact ⟨a1, a2, thf_owner a3 hs, a4⟩
  · rw [stepped_pick]
    by_cases g0 : a = 0
    · subst g0
      obtain ⟨e3, e4, e5⟩ := stepped_now e2
      subst e5
      obtain ⟨a1, a2, a3, a4⟩ := h.fr 0 k o2 hk
      exact ⟨a1, a2, by omega, fun _ => by omega⟩
    · rw [stepped_ne g0] at e2
      obtain ⟨a1, a2, a3, a4⟩ := h.fr a k2 o2 e2
      exact ⟨a1, a2, by omega, fun _ => by omega⟩
  · by_cases g0 : a = 0
    · subst g0
      obtain ⟨e3, e4, e5⟩ := stepped_now e2
      subst e4
      exact stepK_ok h.sok (h.kok 0 k o hk) e3
    · rw [stepped_ne g0] at e2
      exact h.kok a k2 o2 e2

theorem GC.thf {a : Nat} (h : GC c e g t L) (h0 : 0 < a) {k k' : K} {o : HOp} (hk : (g.acs a).now = some (k, o)) (hk' : k' = (stepK k g.mem).1) (hq' : k'.q = q0 c) {t' : Nat} {L' : List Int}
    (hs : TStep 0 t L k k' t' L') (hB : Base (stepK k g.mem).2 c t' L') : GC c none (g.stepped a k o) t' L' := by
  have hm := hs.mono
  have htb := h.tb
  refine ⟨hB, by rw [stepped_pick]; omega, fun b k2 o2 hb e2 => ?_, fun b k2 o2 e2 => ?_, fun y hy => h.acts0 y (by rw [stepped_acts] at hy; exact hy), fun a h0 y hy => h.actsN a h0 y (by rw [stepped_acts] at hy; exact hy), stepK_mok h.sok (h.kok a k o hk), fun b k2 o2 e2 => ?_⟩
  · by_cases g0 : b = a
    · subst g0
      obtain ⟨e3, e4, e5⟩ := stepped_now e2
      subst e4 e5 hk'
      have := (h.someN b k o2 h0 hk).2.2.2
      cases hs with
      | quiet ho h2 => exact ⟨ho, hq', h2, this⟩
      | empty ho hc hv => rw [ho] at e3; cases e3
      | abort ho hc hv v hkv hlt => rw [ho] at e3; cases e3
      | got x L' ho hc hv hL => rw [ho] at e3; cases e3
    · rw [stepped_ne g0] at e2
      obtain ⟨a1, a2, a3, a4⟩ := h.someN b k2 o2 hb e2
      refine ⟨a1, a2, thf_later a3 hm.1 (fun e5 hne => ?_), a4⟩
      cases hs with
      | quiet ho h2 => exact ⟨hne, rfl⟩
      | empty ho hc hv => exact ⟨hne, rfl⟩
      | abort ho hc hv v hkv hlt => exact ⟨hne, rfl⟩
      | got x L' ho hc hv hL => omega
  · rw [stepped_pick]
    by_cases g0 : b = a
    · subst g0
      obtain ⟨e3, e4, e5⟩ := stepped_now e2
      subst e5
      obtain ⟨a1, a2, a3, a4⟩ := h.fr b k o2 hk
      exact ⟨a1, a2, by omega, fun _ => by omega⟩
    · rw [stepped_ne g0] at e2
      obtain ⟨a1, a2, a3, a4⟩ := h.fr b k2 o2 e2
      exact ⟨a1, a2, by omega, fun _ => by omega⟩
  · by_cases g0 : b = a
    · subst g0
      obtain ⟨e3, e4, e5⟩ := stepped_now e2
      subst e4
      exact stepK_ok h.sok (h.kok b k o hk) e3
    · rw [stepped_ne g0] at e2
      exact h.kok b k2 o2 e2

theorem formed_fin {o : HOp} {pick : Nat} {code val : Int} (hm : 0 ≤ o.mach) (hf : 0 ≤ o.frm) (hle : o.frm ≤ pick) (hc : (o.kind = 0 ∧ (code = 0 ∨ code = 3)) ∨ (o.kind = 1 ∧ (code = 1 ∨ code = 2)) ∨ (o.kind = 2 ∧ (code = 1 ∨ code = 2 ∨ code = 4))) :
    (finO o pick code val).formed = true := by
  simp only [HOp.formed, finO, Bool.and_eq_true, Bool.or_eq_true]
  refine ⟨⟨⟨decide_eq_true hf, decide_eq_true hle⟩, decide_eq_true hm⟩, ?_⟩
  rcases hc with ⟨h1, h2⟩ | ⟨h1, h2⟩ | ⟨h1, h2⟩
  · exact .inl (.inl ⟨decide_eq_true h1, h2.imp decide_eq_true decide_eq_true⟩)
  · exact .inl (.inr ⟨decide_eq_true h1, h2.imp decide_eq_true decide_eq_true⟩)
  · refine .inr ⟨decide_eq_true h1, ?_⟩
    rcases h2 with h2 | h2 | h2
    · exact .inl (.inl (decide_eq_true h2))
    · exact .inl (.inr (decide_eq_true h2))
    · exact .inr (decide_eq_true h2)
end
end Go.Proofs.Ytfhkhknnoepfeaa
