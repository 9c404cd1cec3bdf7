/- An owner and thieves in any order: where their machines and the lists of what they do lie. -/
import Derived.Test.YtnjddpijlgjgeaaThfAwake
import Derived.Test.YtnjddpijlgjgeaaOnceP
namespace Go.Proofs.Ytnjddpijlgjgeaa
open Go.RowKit
set_option linter.unusedVariables false

/-- What stands in an actor's place: nothing, or its machine. -/
def xv (ms : Nat → Option K) (ps : Nat → Nat) (a : Nat) : Value := match ms a with
  | none => .nilIface
  | some k => ifc k.kind (ps a)

theorem xv_none {ms : Nat → Option K} {ps : Nat → Nat} {a : Nat} (h : ms a = none) : xv ms ps a = .nilIface := by unfold xv; rw [h]
theorem xv_some {ms : Nat → Option K} {ps : Nat → Nat} {a : Nat} {k : K} (h : ms a = some k) : xv ms ps a = ifc k.kind (ps a) := by unfold xv; rw [h]

/-- The blocks: the elder ones lie below B1, the lists between B1 and B. -/
structure OD (w0 : World) (B1 B en m bc ck xb db pb tb qb : Nat) : Prop where
  e1 : en < B1
  e2 : m < B1
  e3 : bc < B1
  e4 : ck < B1
  e5 : qb < B1
  l1 : w0.heap.size ≤ m
  l2 : w0.heap.size ≤ bc
  l3 : w0.heap.size ≤ B1
  x1 : B1 ≤ xb
  d1 : B1 ≤ db
  p1 : B1 ≤ pb
  t1 : B1 ≤ tb
  x2 : xb < B
  d2 : db < B
  p2 : pb < B
  t2 : tb < B
  xd : xb ≠ db
  xp : xb ≠ pb
  xt : xb ≠ tb
  dp : db ≠ pb
  dt : db ≠ tb
  pt : pb ≠ tb
  qm : qb ≠ m
  qc : qb ≠ bc

structure OW (w0 : World) (B en m bc ck xb db pb tb qb n N c : Nat) (ms : Nat → Option K) (ps : Nat → Nat) (doing : Nat → Int) (pushed : Nat → Bool) (taken : Nat → Int) (s : MS) (wr : World) : Prop where
  E : EnvAt wr en m bc ck s 0
  X : wr.heap[xb]? = some (.cells ((List.range n).map (xv ms ps)).toArray 37 (0, 0))
  D : wr.heap[db]? = some (.cells ((List.range n).map (fun a => Value.int .i64 (doing a))).toArray 3 (0, 0))
  P : wr.heap[pb]? = some (.cells ((List.range N).map (fun a => Value.bool (pushed a))).toArray 4 (0, 0))
  T : wr.heap[tb]? = some (.cells ((List.range N).map (fun a => Value.int .i64 (taken a))).toArray 3 (0, 0))
  Q : wr.heap[qb]? = some (.cells #[.int .i64 0, .int .i64 1, .int .i64 2, .int .i64 c] 25 (0, 0))
  M : ∀ a k, a < n → ms a = some k → B ≤ ps a ∧ wr.heap[ps a]? = some (machO k)
  inj : ∀ a b, a < n → b < n → ms a ≠ none → ms b ≠ none → ps a = ps b → a = b
  O : Only [] w0 wr
  sz : B ≤ wr.heap.size

section
variable {w0 : World} {B1 B en m bc ck xb db pb tb qb n N c : Nat} {ms : Nat → Option K} {ps : Nat → Nat} {doing : Nat → Int} {pushed : Nat → Bool} {taken : Nat → Int} {s : MS} {wr : World}

theorem getR {f : Nat → Value} {n a : Nat} (h : a < n) : ((List.range n).map f).toArray[a]? = some (f a) := by simp [h]

theorem OW.cX {a : Nat} (h : OW w0 B en m bc ck xb db pb tb qb n N c ms ps doing pushed taken s wr) (ha : a < n) : wr.cell? ⟨xb, a, none⟩ = some (xv ms ps a) := by rw [cell_blk h.X, getR ha]
theorem OW.cD {a : Nat} (h : OW w0 B en m bc ck xb db pb tb qb n N c ms ps doing pushed taken s wr) (ha : a < n) : wr.cell? ⟨db, a, none⟩ = some (.int .i64 (doing a)) := by rw [cell_blk h.D, getR ha]
theorem OW.cP {a : Nat} (h : OW w0 B en m bc ck xb db pb tb qb n N c ms ps doing pushed taken s wr) (ha : a < N) : wr.cell? ⟨pb, a, none⟩ = some (.bool (pushed a)) := by rw [cell_blk h.P, getR ha]
theorem OW.cT {a : Nat} (h : OW w0 B en m bc ck xb db pb tb qb n N c ms ps doing pushed taken s wr) (ha : a < N) : wr.cell? ⟨tb, a, none⟩ = some (.int .i64 (taken a)) := by rw [cell_blk h.T, getR ha]
theorem OW.fX (h : OW w0 B en m bc ck xb db pb tb qb n N c ms ps doing pushed taken s wr) (a : Nat) : wr.frozen? ⟨xb, a, none⟩ = false := free_blk h.X a
theorem OW.fD (h : OW w0 B en m bc ck xb db pb tb qb n N c ms ps doing pushed taken s wr) (a : Nat) : wr.frozen? ⟨db, a, none⟩ = false := free_blk h.D a
theorem OW.fP (h : OW w0 B en m bc ck xb db pb tb qb n N c ms ps doing pushed taken s wr) (a : Nat) : wr.frozen? ⟨pb, a, none⟩ = false := free_blk h.P a
theorem OW.fT (h : OW w0 B en m bc ck xb db pb tb qb n N c ms ps doing pushed taken s wr) (a : Nat) : wr.frozen? ⟨tb, a, none⟩ = false := free_blk h.T a

theorem OW.keep0 {wr' : World} (h : OW w0 B en m bc ck xb db pb tb qb n N c ms ps doing pushed taken s wr) (o : Only [] wr wr') : OW w0 B en m bc ck xb db pb tb qb n N c ms ps doing pushed taken s wr' :=
  ⟨h.E.keep0 o, o.keep h.X (by simp), o.keep h.D (by simp), o.keep h.P (by simp), o.keep h.T (by simp), o.keep h.Q (by simp), fun a k ha hk => ⟨(h.M a k ha hk).1, o.keep (h.M a k ha hk).2 (by simp)⟩, h.inj, h.O.then0 o, Nat.le_trans h.sz o.size⟩

/-- A store into one of the lists. -/
theorem OW.setD {a : Nat} (h : OW w0 B en m bc ck xb db pb tb qb n N c ms ps doing pushed taken s wr) (d : OD w0 B1 B en m bc ck xb db pb tb qb) (x : Int) :
    OW w0 B en m bc ck xb db pb tb qb n N c ms ps (upd doing a x) pushed taken s (wr.setCell ⟨db, a, none⟩ (.int .i64 x)) := by
  have o : Only [db] wr (wr.setCell ⟨db, a, none⟩ (.int .i64 x)) := (Only.refl _ _).setCell (by simp) _
  obtain ⟨e1, e2, e3, e4, e5, l1, l2, l3, x1, d1, p1, t1, x2, d2, p2, t2, xd, xp, xt, dp, dt, pt, qm, qc⟩ := d
  refine ⟨h.E.keep o (by simp; omega) (by simp; omega) (by simp; omega) (by simp; omega), o.keep h.X (by simp; omega), ?_, o.keep h.P (by simp; omega), o.keep h.T (by simp; omega), o.keep h.Q (by simp; omega), fun b k hb hk => ⟨(h.M b k hb hk).1, o.keep (h.M b k hb hk).2 (by have := (h.M b k hb hk).1; simp; omega)⟩, h.inj, h.O.trans o (by simp; omega), Nat.le_trans h.sz o.size⟩
  rw [blk_setCell h.D, List.setIfInBounds_toArray, map_upd]

theorem OW.setP {a : Nat} (h : OW w0 B en m bc ck xb db pb tb qb n N c ms ps doing pushed taken s wr) (d : OD w0 B1 B en m bc ck xb db pb tb qb) (x : Bool) :
    OW w0 B en m bc ck xb db pb tb qb n N c ms ps doing (upd pushed a x) taken s (wr.setCell ⟨pb, a, none⟩ (.bool x)) := by
  have o : Only [pb] wr (wr.setCell ⟨pb, a, none⟩ (.bool x)) := (Only.refl _ _).setCell (by simp) _
  obtain ⟨e1, e2, e3, e4, e5, l1, l2, l3, x1, d1, p1, t1, x2, d2, p2, t2, xd, xp, xt, dp, dt, pt, qm, qc⟩ := d
  refine ⟨h.E.keep o (by simp; omega) (by simp; omega) (by simp; omega) (by simp; omega), o.keep h.X (by simp; omega), o.keep h.D (by simp; omega), ?_, o.keep h.T (by simp; omega), o.keep h.Q (by simp; omega), fun b k hb hk => ⟨(h.M b k hb hk).1, o.keep (h.M b k hb hk).2 (by have := (h.M b k hb hk).1; simp; omega)⟩, h.inj, h.O.trans o (by simp; omega), Nat.le_trans h.sz o.size⟩
  rw [blk_setCell h.P, List.setIfInBounds_toArray, map_upd]

theorem OW.setT {a : Nat} (h : OW w0 B en m bc ck xb db pb tb qb n N c ms ps doing pushed taken s wr) (d : OD w0 B1 B en m bc ck xb db pb tb qb) (x : Int) :
    OW w0 B en m bc ck xb db pb tb qb n N c ms ps doing pushed (upd taken a x) s (wr.setCell ⟨tb, a, none⟩ (.int .i64 x)) := by
  have o : Only [tb] wr (wr.setCell ⟨tb, a, none⟩ (.int .i64 x)) := (Only.refl _ _).setCell (by simp) _
  obtain ⟨e1, e2, e3, e4, e5, l1, l2, l3, x1, d1, p1, t1, x2, d2, p2, t2, xd, xp, xt, dp, dt, pt, qm, qc⟩ := d
  refine ⟨h.E.keep o (by simp; omega) (by simp; omega) (by simp; omega) (by simp; omega), o.keep h.X (by simp; omega), o.keep h.D (by simp; omega), o.keep h.P (by simp; omega), ?_, o.keep h.Q (by simp; omega), fun b k hb hk => ⟨(h.M b k hb hk).1, o.keep (h.M b k hb hk).2 (by have := (h.M b k hb hk).1; simp; omega)⟩, h.inj, h.O.trans o (by simp; omega), Nat.le_trans h.sz o.size⟩
  rw [blk_setCell h.T, List.setIfInBounds_toArray, map_upd]

theorem map_xv {n a : Nat} {v : Value} {ms ms' : Nat → Option K} {ps ps' : Nat → Nat} (ha : xv ms' ps' a = v) (hb : ∀ b, b ≠ a → xv ms' ps' b = xv ms ps b) : ((List.range n).map (xv ms ps)).set a v = (List.range n).map (xv ms' ps') := by
  apply List.ext_getElem
  · simp
  · intro i h1 h2
    rw [List.getElem_set]
    simp only [List.getElem_map, List.getElem_range]
    by_cases h : a = i
    · subst h; rw [if_pos rfl, ha]
    · rw [if_neg h, hb i (fun e => h e.symm)]

theorem OW.drop {a : Nat} (h : OW w0 B en m bc ck xb db pb tb qb n N c ms ps doing pushed taken s wr) (d : OD w0 B1 B en m bc ck xb db pb tb qb) :
    OW w0 B en m bc ck xb db pb tb qb n N c (upd ms a none) ps doing pushed taken s (wr.setCell ⟨xb, a, none⟩ .nilIface) := by
  have o : Only [xb] wr (wr.setCell ⟨xb, a, none⟩ .nilIface) := (Only.refl _ _).setCell (by simp) _
  obtain ⟨e1, e2, e3, e4, e5, l1, l2, l3, x1, d1, p1, t1, x2, d2, p2, t2, xd, xp, xt, dp, dt, pt, qm, qc⟩ := d
  have un : ∀ b k, upd ms a none b = some k → ms b = some k := fun b k e => by
    by_cases g : b = a
    · subst g; rw [upd_same] at e; cases e
    · rw [upd_ne g] at e; exact e
  have un2 : ∀ b, upd ms a none b ≠ none → ms b ≠ none := fun b e g => by
    cases e2 : upd ms a none b with
    | none => exact e e2
    | some k => rw [un b k e2] at g; cases g
  refine ⟨h.E.keep o (by simp; omega) (by simp; omega) (by simp; omega) (by simp; omega), ?_, o.keep h.D (by simp; omega), o.keep h.P (by simp; omega), o.keep h.T (by simp; omega), o.keep h.Q (by simp; omega), fun b k hb hk => ?_, fun b1 b2 g1 g2 g3 g4 => h.inj b1 b2 g1 g2 (un2 _ g3) (un2 _ g4), h.O.trans o (by simp; omega), Nat.le_trans h.sz o.size⟩
  · rw [blk_setCell h.X, List.setIfInBounds_toArray, map_xv (xv_none (upd_same _ _ _)) (fun b hb => by unfold xv; rw [upd_ne hb])]
  · have := h.M b k hb (un b k hk)
    exact ⟨this.1, o.keep this.2 (by simp; omega)⟩

theorem OW.begin {a p : Nat} {k : K} (h : OW w0 B en m bc ck xb db pb tb qb n N c ms ps doing pushed taken s wr) (d : OD w0 B1 B en m bc ck xb db pb tb qb) (hp : wr.heap[p]? = some (machO k)) (hB : B ≤ p) (hne : ∀ b, b < n → b ≠ a → ms b ≠ none → ps b ≠ p) :
    OW w0 B en m bc ck xb db pb tb qb n N c (upd ms a (some k)) (upd ps a p) doing pushed taken s (wr.setCell ⟨xb, a, none⟩ (ifc k.kind p)) := by
  have o : Only [xb] wr (wr.setCell ⟨xb, a, none⟩ (ifc k.kind p)) := (Only.refl _ _).setCell (by simp) _
  obtain ⟨e1, e2, e3, e4, e5, l1, l2, l3, x1, d1, p1, t1, x2, d2, p2, t2, xd, xp, xt, dp, dt, pt, qm, qc⟩ := d
  refine ⟨h.E.keep o (by simp; omega) (by simp; omega) (by simp; omega) (by simp; omega), ?_, o.keep h.D (by simp; omega), o.keep h.P (by simp; omega), o.keep h.T (by simp; omega), o.keep h.Q (by simp; omega), fun b k' hb hk => ?_, fun b1 b2 g1 g2 g3 g4 g5 => ?_, h.O.trans o (by simp; omega), Nat.le_trans h.sz o.size⟩
  · rw [blk_setCell h.X, List.setIfInBounds_toArray, map_xv (ms' := upd ms a (some k)) (ps' := upd ps a p) (by rw [xv_some (upd_same _ _ _), upd_same]) (fun b hb => by unfold xv; rw [upd_ne hb, upd_ne hb])]
  · by_cases g : b = a
    · subst g
      rw [upd_same] at hk
      cases hk
      rw [upd_same]
      exact ⟨hB, o.keep hp (by simp; omega)⟩
    · rw [upd_ne g] at hk ⊢
      have := h.M b k' hb hk
      exact ⟨this.1, o.keep this.2 (by simp; omega)⟩
  · by_cases q1 : b1 = a
    · by_cases q2 : b2 = a
      · omega
      · subst q1
        rw [upd_same, upd_ne q2] at g5
        rw [upd_ne q2] at g4
        exact absurd g5.symm (hne b2 g2 q2 g4)
    · by_cases q2 : b2 = a
      · subst q2
        rw [upd_same, upd_ne q1] at g5
        rw [upd_ne q1] at g3
        exact absurd g5 (hne b1 g1 q1 g3)
      · rw [upd_ne q1, upd_ne q2] at g5
        rw [upd_ne q1] at g3
        rw [upd_ne q2] at g4
        exact h.inj b1 b2 g1 g2 g3 g4 g5

/-- New machines lie apart from those that are there. -/
theorem OW.fresh {a p : Nat} (h : OW w0 B en m bc ck xb db pb tb qb n N c ms ps doing pushed taken s wr) (hp : wr.heap.size ≤ p) : ∀ b, b < n → b ≠ a → ms b ≠ none → ps b ≠ p := by
  intro b hb _ hn
  cases e : ms b with
  | none => exact absurd e hn
  | some k =>
    have := lt_of_blk (h.M b k hb e).2
    omega

theorem OW.apart {a : Nat} {k : K} (h : OW w0 B en m bc ck xb db pb tb qb n N c ms ps doing pushed taken s wr) (d : OD w0 B1 B en m bc ck xb db pb tb qb) (ha : a < n) (hk : ms a = some k) : Apart (ps a) en m bc ∧ ck ≠ ps a := by
  have h1 := (h.M a k ha hk).1
  obtain ⟨e1, e2, e3, e4, e5, l1, l2, l3, x1, d1, p1, t1, x2, d2, p2, t2, xd, xp, xt, dp, dt, pt, qm, qc⟩ := d
  exact ⟨⟨by omega, by omega, by omega, h.E.em, h.E.ec⟩, by omega⟩

theorem OW.stepped {a : Nat} {k k' : K} {s' : MS} {w' : World} (h : OW w0 B en m bc ck xb db pb tb qb n N c ms ps doing pushed taken s wr) (d : OD w0 B1 B en m bc ck xb db pb tb qb) (ha : a < n) (hk : ms a = some k) (o : Only [ps a, m, bc] wr w') (hp : w'.heap[ps a]? = some (machO k')) (hkk : k'.kind = k.kind) (hM : MemAt w' m bc s') :
    OW w0 B en m bc ck xb db pb tb qb n N c (upd ms a (some k')) ps doing pushed taken s' w' := by
  have hB := (h.M a k ha hk).1
  obtain ⟨hA, hc⟩ := h.apart d ha hk
  have hE := h.E.step hA hc o hM
  obtain ⟨e1, e2, e3, e4, e5, l1, l2, l3, x1, d1, p1, t1, x2, d2, p2, t2, xd, xp, xt, dp, dt, pt, qm, qc⟩ := d
  have hx : (List.range n).map (xv ms ps) = (List.range n).map (xv (upd ms a (some k')) ps) := by
    apply List.map_congr_left
    intro b _
    by_cases g : b = a
    · subst g; rw [xv_some hk, xv_some (upd_same _ _ _), hkk]
    · unfold xv; rw [upd_ne g]
  have un2 : ∀ b, upd ms a (some k') b ≠ none → ms b ≠ none := fun b e => by
    by_cases g : b = a
    · subst g; rw [hk]; simp
    · rw [upd_ne g] at e; exact e
  refine ⟨hE, by rw [← hx]; exact o.keep h.X (by simp; omega), o.keep h.D (by simp; omega), o.keep h.P (by simp; omega), o.keep h.T (by simp; omega), o.keep h.Q (by simp; omega), fun b k2 hb hk2 => ?_, fun b1 b2 g1 g2 g3 g4 => h.inj b1 b2 g1 g2 (un2 _ g3) (un2 _ g4), h.O.trans o (by simp; omega), Nat.le_trans h.sz o.size⟩
  by_cases g : b = a
  · subst g
    rw [upd_same] at hk2
    cases hk2
    exact ⟨hB, hp⟩
  · rw [upd_ne g] at hk2
    have := h.M b k2 hb hk2
    refine ⟨this.1, o.keep this.2 ?_⟩
    have hne : ps b ≠ ps a := fun e => g (h.inj b a hb ha (by rw [hk2]; simp) (by rw [hk]; simp) e)
    simp
    omega
end

theorem upd_upd {α : Type} (f : Nat → α) (a : Nat) (x y : α) : upd (upd f a x) a y = upd f a y := by
  funext b
  unfold upd
  by_cases h : b = a
  · rw [if_pos h, if_pos h]
  · rw [if_neg h, if_neg h, if_neg h]

theorem ON.live {c t0 i j a : Nat} {ms : Nat → Option K} {doing : Nat → Int} {pushed : Nat → Bool} {taken : Nat → Int} {s : MS} {t : Nat} {L : List Int} {res : Option Int} {k : K} (h : ON c t0 i j ms doing pushed taken s t L res) (hk : ms a = some k) : k.over = false ∧ k.kind ≤ 2 := by
  rcases Nat.eq_zero_or_pos a with ha | ha
  · subst ha
    obtain ⟨h1, _, _, h2⟩ := h.some0 k hk
    exact ⟨h1, by rcases h2 with ⟨e, _⟩ | ⟨e, _⟩ <;> omega⟩
  · obtain ⟨h1, _, h2⟩ := h.someN a k ha hk
    exact ⟨h1, by cases h2 <;> omega⟩

/-- In the midst of a round: actor a has a machine. -/
def OnceMid (w0 : World) (B en m bc ck xb db pb tb qb n N c t0 len j a : Nat) (wx : World) : Prop :=
  ∃ (ms : Nat → Option K) (ps : Nat → Nat) (doing : Nat → Int) (pushed : Nat → Bool) (taken : Nat → Int) (s : MS) (t : Nat) (L : List Int) (res : Option Int) (k : K), ms a = some k ∧
    OW w0 B en m bc ck xb db pb tb qb n N c ms ps doing pushed taken s wx ∧ ON c t0 (min (j + 1) len) j ms doing pushed taken s t L res ∧ s.count ≤ c + 3 + j ∧ (len ≤ j → a = (j - len) / 12 ∧ OF ms (j - len))

/-- At a round's head. -/
def OnceRel (w0 : World) (B en m bc ck xb db pb tb qb n N c t0 len j : Nat) (wr : World) : Prop :=
  ∃ (ms : Nat → Option K) (ps : Nat → Nat) (doing : Nat → Int) (pushed : Nat → Bool) (taken : Nat → Int) (s : MS) (t : Nat) (L : List Int) (res : Option Int),
    OW w0 B en m bc ck xb db pb tb qb n N c ms ps doing pushed taken s wr ∧ ON c t0 (min j len) j ms doing pushed taken s t L res ∧ s.count ≤ c + 3 + j ∧ (len ≤ j → OF ms (j - len))

/-- The machine that an actor begins. -/
def nextK (q : Q4) (a : Nat) (ch num : Int) : K := if 0 < a then newSteal q else if ch.tmod 2 = 0 then newPush q num else newPop q

theorem next_any (w : World) (c a : Nat) (ch num : Int) : Calls Try.prog 30 #[(q0 c).v, .int .i64 a, .int .i64 ch, .int .i64 num] w (NewPost (nextK (q0 c) a ch num) w) := by
  rcases Nat.eq_zero_or_pos a with ha | ha
  · subst ha
    have h0 : ((ch.tmod 2) == 0) = decide (ch.tmod 2 = 0) := by simp [BEq.beq]
    by_cases h : ch.tmod 2 = 0
    · have hk : nextK (q0 c) 0 ch num = newPush (q0 c) num := by unfold nextK; rw [if_neg (by omega), if_pos h]
      rw [hk]
      have hb : (ch.tmod 2 == 0) = true := by simpa using h
      clear h h0 hk
      go_enter Try.func30, Try.ntmps30
      simp only [Q4.v, q0]
      go_wp2_with fail
      refine (show Calls Try.prog 19 #[.agg #[.int .i64 0, .int .i64 1, .int .i64 2, .int .i64 c], .int .i64 num] _ _ from push_new _ (q0 c) num).mono ?_; rintro e v1 ⟨p, rfl, o, b, lo, hi⟩
      go_wp2_with fail
      go_ret
      exact ⟨p, rfl, ((Only.refl _ _).alloc _).then0 o, b, by simp at lo; omega, hi⟩
    · have hk : nextK (q0 c) 0 ch num = newPop (q0 c) := by unfold nextK; rw [if_neg (by omega), if_neg h]
      rw [hk]
      have hb : (ch.tmod 2 == 0) = false := by simpa using h
      clear h h0 hk
      go_enter Try.func30, Try.ntmps30
      simp only [Q4.v, q0]
      go_wp2_with fail
      refine (show Calls Try.prog 20 #[.agg #[.int .i64 0, .int .i64 1, .int .i64 2, .int .i64 c]] _ _ from pop_new _ (q0 c)).mono ?_; rintro e v1 ⟨p, rfl, o, b, lo, hi⟩
      go_wp2_with fail
      go_ret
      exact ⟨p, rfl, ((Only.refl _ _).alloc _).then0 o, b, by simp at lo; omega, hi⟩
  · have hk : nextK (q0 c) a ch num = newSteal (q0 c) := by unfold nextK; rw [if_pos ha]
    rw [hk]
    clear hk
    go_enter Try.func30, Try.ntmps30
    simp only [Q4.v, q0]
    go_wp2_with fail
    refine (show Calls Try.prog 26 #[.agg #[.int .i64 0, .int .i64 1, .int .i64 2, .int .i64 c]] _ _ from steal_new _ (q0 c)).mono ?_; rintro e v1 ⟨p, rfl, o, b, lo, hi⟩
    go_wp2_with fail
    go_ret
    exact ⟨p, rfl, ((Only.refl _ _).alloc _).then0 o, b, by simp at lo; omega, hi⟩
end Go.Proofs.Ytnjddpijlgjgeaa
