/- The reference's game in memory: its actors, their machines, what a pick keeps. -/
import Derived.Test.YtfhkhknnoepfeaaGreatRefMake
import Derived.Test.YtfhkhknnoepfeaaGreatHistPlay3
import Derived.Test.YtfhkhknnoepfeaaGreatRowBlk
namespace Go.Proofs.YtfhkhknnoepfeaaGreat
open Go.RowKit
set_option linter.unusedVariables false

/-- A machine that is not done has neither code nor value. -/
theorem stepK_z0 {k : K} {s : MS} (h0 : k.code = 0 ∧ k.val = 0) (ho : (stepK k s).1.over = false) : (stepK k s).1.code = 0 ∧ (stepK k s).1.val = 0 := by
  revert ho
  unfold stepK
  by_cases hk : k.over = true
  · rw [if_pos hk]; intro _; exact h0
  · rw [if_neg hk]
    split
    · unfold stepPush
      split
      · intro _; exact h0
      · by_cases g : k.q.cap ≤ sz k.u (s.at k.q.top)
        · simp only [if_pos g]; intro h; simp [K.fin] at h
        · simp only [if_neg g]; intro _; exact h0
      · intro _; exact h0
      · intro h; simp [K.fin] at h
    · unfold stepPop
      split
      · intro _; exact h0
      · by_cases g : sz k.u (s.at k.q.top) ≤ 0
        · simp only [if_pos g]; intro h; simp [K.fin] at h
        · simp only [if_neg g]; intro _; exact h0
      · intro _; exact h0
      · intro _; exact h0
      · intro h; simp [K.fin] at h
      · intro h; simp [K.fin] at h
      · intro _; exact h0
      · intro _; exact h0
      · intro h; simp [K.fin] at h
    · unfold stepSteal
      split
      · intro _; exact h0
      · by_cases g : sz (s.at k.q.bot) k.v ≤ 0
        · simp only [if_pos g]; intro h; simp [K.fin] at h
        · simp only [if_neg g]; intro _; exact h0
      · intro _; exact h0
      · by_cases g : (s.has k.q.top && s.at k.q.top == k.v) = true
        · simp only [if_pos g]; intro h; simp [K.fin] at h
        · simp only [if_neg g]; intro h; simp [K.fin] at h
    · intro h; simp [K.fin] at h
    · unfold stepClear
      split
      · intro _; exact h0
      · intro _; exact h0
      · by_cases g : sz k.u (s.at k.q.top) ≤ 0
        · simp only [if_pos g]; intro h; simp [K.fin] at h
        · simp only [if_neg g]; intro _; exact h0
      · intro h; simp [K.fin] at h

/-- What a machine that is done returns. -/
theorem stepK_fin {k : K} {s : MS} (hk : k.kind ≤ 2) (h0 : k.over = false) (ho : (stepK k s).1.over = true) : (k.kind = 0 → (stepK k s).1.code ≠ 1) ∧ ((stepK k s).1.code = 1 ∨ (stepK k s).1.val = 0) := by
  have hb : ¬ k.over = true := by rw [h0]; simp
  revert ho
  unfold stepK
  rw [if_neg hb]
  rcases (show k.kind = 0 ∨ k.kind = 1 ∨ k.kind = 2 by omega) with e | e | e
  · rw [e]
    simp only
    unfold stepPush
    split
    · intro h; simp only at h; exact absurd h hb
    · by_cases g : k.q.cap ≤ sz k.u (s.at k.q.top)
      · simp only [if_pos g]; intro _; simp [K.fin]
      · simp only [if_neg g]; intro h; exact absurd h hb
    · intro h; exact absurd h hb
    · intro _; simp [K.fin]
  · rw [e]
    simp only
    unfold stepPop
    split
    · intro h; exact absurd h hb
    · by_cases g : sz k.u (s.at k.q.top) ≤ 0
      · simp only [if_pos g]; intro _; simp [K.fin]
      · simp only [if_neg g]; intro h; exact absurd h hb
    · intro h; exact absurd h hb
    · intro h; exact absurd h hb
    · intro _; simp [K.fin]
    · intro _; simp [K.fin]
    · intro h; exact absurd h hb
    · intro h; exact absurd h hb
    · intro _; simp [K.fin]
  · rw [e]
    simp only
    unfold stepSteal
    split
    · intro h; exact absurd h hb
    · by_cases g : sz (s.at k.q.bot) k.v ≤ 0
      · simp only [if_pos g]; intro _; simp [K.fin]
      · simp only [if_neg g]; intro h; exact absurd h hb
    · intro h; exact absurd h hb
    · by_cases g : (s.has k.q.top && s.at k.q.top == k.v) = true
      · simp only [if_pos g]; intro _; simp [K.fin]
      · simp only [if_neg g]; intro _; simp [K.fin]

theorem GX.kinds {c : Nat} {g : Gm} (h : GX c g) {a : Nat} {k : K} {o : HOp} (e : (g.acs a).now = some (k, o)) : (k.kind : Int) = o.kind ∧ 0 ≤ o.frm := by
  obtain ⟨t, L, res, H, S, h⟩ := h
  refine ⟨?_, (h.C.fr a k o e).2.1⟩
  rcases Nat.eq_zero_or_pos a with ha | ha
  · subst ha; exact (h.some0 k o e).2.2.2.1
  · have h1 := h.C.someN a k o ha e
    have h2 : k.kind = 2 := by have := h1.2.2.1; cases this <;> assumption
    rw [h2, h1.2.2.2]; rfl
theorem fin_val {k : K} {s : MS} {o : HOp} {g : Gm} {c a : Nat} (h : GX c g) (e : (g.acs a).now = some (k, o)) (ho : (stepK k s).1.over = true) (hv : o.kind ≠ 0 → o.value = 0) :
    (if o.kind = 0 then o.value else (stepK k s).1.val) = (if (stepK k s).1.code = 1 then (stepK k s).1.val else o.value) := by
  obtain ⟨h1, h2, h3⟩ := h.live a k o e
  obtain ⟨h4, h5⟩ := h.kinds e
  obtain ⟨f1, f2⟩ := stepK_fin h3 h1 ho
  by_cases e0 : o.kind = 0
  · rw [if_pos e0, if_neg (f1 (by omega))]
  · rw [if_neg e0]
    by_cases e1 : (stepK k s).1.code = 1
    · rw [if_pos e1]
    · rw [if_neg e1, hv e0]
      rcases f2 with f | f
      · exact absurd f e1
      · exact f

/-- What changes: the blocks of S, and of block rb the cells from lo to hi. -/
structure Chg (S : List Nat) (rb lo hi : Nat) (w w' : World) : Prop where
  o : Only (rb :: S) w w'
  k : ∀ i, ¬ (lo ≤ i ∧ i < hi) → w'.cell? ⟨rb, i, none⟩ = w.cell? ⟨rb, i, none⟩
  h : ∀ arr, w.heap[rb]? = some (.cells arr 66 (0, 0)) → ∃ arr', w'.heap[rb]? = some (.cells arr' 66 (0, 0))
theorem Chg.refl {S : List Nat} {rb lo hi : Nat} (w : World) : Chg S rb lo hi w w := ⟨Only.refl _ _, fun _ _ => rfl, fun arr h => ⟨arr, h⟩⟩
theorem Chg.set {S : List Nat} {rb lo hi : Nat} {w w' : World} (c : Chg S rb lo hi w w') {i : Nat} (hi' : lo ≤ i ∧ i < hi) (v : Value) : Chg S rb lo hi w (w'.setCell ⟨rb, i, none⟩ v) :=
  ⟨c.o.setCell (.inl (by simp)) _, fun j hj => by rw [cell_set_ne (.inr (fun e => hj (by omega)))]; exact c.k j hj, fun arr h => by obtain ⟨arr', h2⟩ := c.h arr h; exact ⟨_, blk_setCell h2 _ _⟩⟩
theorem Chg.then {S : List Nat} {rb lo hi : Nat} {w w' w'' : World} (c : Chg S rb lo hi w w') (hl : rb < w.heap.size) (hS : rb ∉ S) (o : Only S w' w'') : Chg S rb lo hi w w'' := by
  have hk : ∀ i, w''.cell? ⟨rb, i, none⟩ = w'.cell? ⟨rb, i, none⟩ := fun i => o.cell (p := ⟨rb, i, none⟩) (Nat.lt_of_lt_of_le hl c.o.size) hS
  exact ⟨c.o.trans o (fun t ht => .inl (by simp [ht])), fun i hi => by rw [hk]; exact c.k i hi, fun arr h => by obtain ⟨arr', h2⟩ := c.h arr h; exact ⟨_, o.keep h2 hS⟩⟩
theorem Chg.then0 {S : List Nat} {rb lo hi : Nat} {w w' w'' : World} (c : Chg S rb lo hi w w') (hl : rb < w.heap.size) (o : Only [] w' w'') : Chg S rb lo hi w w'' := by
  have hk : ∀ i, w''.cell? ⟨rb, i, none⟩ = w'.cell? ⟨rb, i, none⟩ := fun i => o.cell (p := ⟨rb, i, none⟩) (Nat.lt_of_lt_of_le hl c.o.size) (by simp)
  exact ⟨c.o.trans (o.mono (by simp)) (fun t ht => .inl ht), fun i hi => by rw [hk]; exact c.k i hi, fun arr h => by obtain ⟨arr', h2⟩ := c.h arr h; exact ⟨_, o.keep h2 (by simp)⟩⟩

theorem Chg.thenN {S T : List Nat} {rb lo hi : Nat} {w w' w'' : World} (c : Chg S rb lo hi w w') (hl : rb < w.heap.size) (hT : ∀ t ∈ T, w.heap.size ≤ t) (o : Only T w' w'') : Chg S rb lo hi w w'' := by
  have hS : rb ∉ T := fun h => by have := hT rb h; omega
  have hk : ∀ i, w''.cell? ⟨rb, i, none⟩ = w'.cell? ⟨rb, i, none⟩ := fun i => o.cell (p := ⟨rb, i, none⟩) (Nat.lt_of_lt_of_le hl c.o.size) hS
  exact ⟨c.o.trans o (fun t ht => .inr (hT t ht)), fun i hi => by rw [hk]; exact c.k i hi, fun arr h => by obtain ⟨arr', h2⟩ := c.h arr h; exact ⟨_, o.keep h2 hS⟩⟩

theorem Chg.mono {S T : List Nat} {rb lo hi : Nat} {w w' : World} (c : Chg S rb lo hi w w') (h : ∀ t ∈ S, t ∈ T) : Chg T rb lo hi w w' :=
  ⟨c.o.mono (fun t ht => .inl (by rw [List.mem_cons] at ht ⊢; exact ht.imp id (h t))), c.k, c.h⟩

/-- An actor's five cells. -/
def AcAt (w : World) (rb p : Nat) (av mv : Value) (kk vv sc : Int) : Prop :=
  w.cell? ⟨rb, p, none⟩ = some av ∧ w.cell? ⟨rb, p + 1, none⟩ = some mv ∧ w.cell? ⟨rb, p + 2, none⟩ = some (.int .i64 kk) ∧ w.cell? ⟨rb, p + 3, none⟩ = some (.int .i64 vv) ∧ w.cell? ⟨rb, p + 4, none⟩ = some (.int .i64 sc)
theorem AcAt.chg {S : List Nat} {w w' : World} {rb p lo hi : Nat} {av mv : Value} {kk vv sc : Int} (h : AcAt w rb p av mv kk vv sc) (c : Chg S rb lo hi w w') (hp : p + 4 < lo ∨ hi ≤ p) : AcAt w' rb p av mv kk vv sc := by
  obtain ⟨h0, h1, h2, h3, h4⟩ := h
  exact ⟨by rw [c.k _ (by omega)]; exact h0, by rw [c.k _ (by omega)]; exact h1, by rw [c.k _ (by omega)]; exact h2, by rw [c.k _ (by omega)]; exact h3, by rw [c.k _ (by omega)]; exact h4⟩

def sinceOf (v : Ac) : Int := match v.now with
  | none => -1
  | some (_, o) => o.frm

/-- The game at world w. -/
structure RG (w0 w : World) (B n c rb r rc : Nat) (ys fs : Nat → Nat) (avs mvs : Nat → Value) (kks vvs : Nat → Int) (g : Gm) : Prop where
  E : REnvAt w r rc g.mem 0
  A : ∀ a, a < n → AcAt w rb (a * 5) (avs a) (mvs a) (kks a) (vvs a) (sinceOf (g.acs a))
  H : ∃ arr, w.heap[rb]? = some (.cells arr 66 (0, 0))
  V : ∀ a, a < n → ActsAt w (avs a) (g.acs a).acts
  VB : ∀ a, a < n → ∀ ad m cp, avs a = .slice (some ad) m cp → ad.block < B ∧ ad.block ≠ r ∧ ad.block ≠ rc ∧ ad.block ≠ rb
  N : ∀ a k o, a < n → (g.acs a).now = some (k, o) → mvs a = .pointer (some ⟨ys a, 0, none⟩) ∧ kks a = o.kind ∧ (o.kind = 0 → vvs a = o.value) ∧ o.mach = a ∧ (o.kind ≠ 0 → o.value = 0)
  M : ∀ a k o, a < n → (g.acs a).now = some (k, o) → RMach w (ys a) (fs a) k ∧ (k.code = 0 ∧ k.val = 0) ∧ B ≤ ys a ∧ B ≤ fs a ∧ ys a ≠ fs a ∧ ys a < w.heap.size ∧ fs a < w.heap.size
  D : ∀ a b, a < n → b < n → a ≠ b → (g.acs a).now ≠ none → (g.acs b).now ≠ none → ys a ≠ ys b ∧ ys a ≠ fs b ∧ fs a ≠ fs b
  F : Only [] w0 w
  lt : r < B ∧ rc < B ∧ rb < B ∧ r ≠ rc ∧ r ≠ rb ∧ rc ≠ rb ∧ w0.heap.size ≤ r ∧ w0.heap.size ≤ rc ∧ w0.heap.size ≤ rb ∧ B ≤ w.heap.size

theorem RG.next {w0 w w' : World} {B n c rb r rc : Nat} {ys fs : Nat → Nat} {avs mvs : Nat → Value} {kks vvs : Nat → Int} {g g' : Gm} (h : RG w0 w B n c rb r rc ys fs avs mvs kks vvs g) {a : Nat} (ha : a < n) {S : List Nat}
    (u : Chg S rb (a * 5) (a * 5 + 5) w w') (hS : ∀ t ∈ S, t = r ∨ t = rc ∨ ((g.acs a).now ≠ none ∧ (t = ys a ∨ t = fs a)) ∨ w.heap.size ≤ t) (hg : ∀ b, b ≠ a → g'.acs b = g.acs b) (hE : REnvAt w' r rc g'.mem 0)
    {av' mv' : Value} {kk' vv' : Int} {y' f' : Nat} (hA : AcAt w' rb (a * 5) av' mv' kk' vv' (sinceOf (g'.acs a))) (hV : ActsAt w' av' (g'.acs a).acts)
    (hVB : ∀ ad m cp, av' = .slice (some ad) m cp → ∃ ad2 m2 cp2, avs a = .slice (some ad2) m2 cp2 ∧ ad2.block = ad.block)
    (hN : ∀ k o, (g'.acs a).now = some (k, o) → mv' = .pointer (some ⟨y', 0, none⟩) ∧ kk' = o.kind ∧ (o.kind = 0 → vv' = o.value) ∧ o.mach = a ∧ (o.kind ≠ 0 → o.value = 0))
    (hM : ∀ k o, (g'.acs a).now = some (k, o) → RMach w' y' f' k ∧ (k.code = 0 ∧ k.val = 0) ∧ y' ≠ f' ∧ y' < w'.heap.size ∧ f' < w'.heap.size ∧ (((g.acs a).now ≠ none ∧ y' = ys a ∧ f' = fs a) ∨ (w.heap.size ≤ y' ∧ w.heap.size ≤ f'))) :
    RG w0 w' B n c rb r rc (upd ys a y') (upd fs a f') (upd avs a av') (upd mvs a mv') (upd kks a kk') (upd vvs a vv') g' := by
  obtain ⟨l1, l2, l3, l4, l5, l6, l7, l8, l9, l10⟩ := h.lt
  have hsz := u.o.size
  have act : (g.acs a).now ≠ none → B ≤ ys a ∧ B ≤ fs a := fun e => by
    cases hn : (g.acs a).now with
    | none => exact absurd hn e
    | some ko => have := h.M a ko.1 ko.2 ha hn; exact ⟨this.2.2.1, this.2.2.2.1⟩
  have low : ∀ t ∈ S, t = r ∨ t = rc ∨ B ≤ t := fun t ht => by
    rcases hS t ht with e | e | ⟨e, e2⟩ | e
    · exact .inl e
    · exact .inr (.inl e)
    · have := act e; right; right; omega
    · right; right; omega
  refine ⟨hE, fun b hb => ?_, ?_, fun b hb => ?_, fun b hb => ?_, fun b k o hb hn => ?_, fun b k o hb hn => ?_, fun b1 b2 h1 h2 hne n1 n2 => ?_, ?_, ⟨l1, l2, l3, l4, l5, l6, l7, l8, l9, by omega⟩⟩
  · by_cases e : b = a
    · subst e; simp only [upd_same]; exact hA
    · simp only [upd_ne e]; rw [hg b e]; exact (h.A b hb).chg u (by omega)
  · obtain ⟨arr, hh⟩ := h.H; exact u.h arr hh
  · by_cases e : b = a
    · subst e; simp only [upd_same]; exact hV
    · simp only [upd_ne e]; rw [hg b e]
      refine (h.V b hb).keep u.o (fun b2 off m cp e2 hp hm => ?_)
      have hvb := h.VB b hb _ _ _ e2
      simp only at hvb
      rw [List.mem_cons] at hm
      rcases hm with hm | hm
      · omega
      · rcases low _ hm with q | q | q <;> omega
  · by_cases e : b = a
    · subst e; simp only [upd_same]
      intro ad m cp e2
      obtain ⟨ad2, m2, cp2, e3, e4⟩ := hVB ad m cp e2
      rw [← e4]; exact h.VB b hb ad2 m2 cp2 e3
    · simp only [upd_ne e]; exact h.VB b hb
  · by_cases e : b = a
    · subst e; simp only [upd_same]; exact hN k o hn
    · simp only [upd_ne e]; rw [hg b e] at hn; exact h.N b k o hb hn
  · by_cases e : b = a
    · subst e
      simp only [upd_same]
      obtain ⟨m1, m2, m3, m4, m5, m6⟩ := hM k o hn
      refine ⟨m1, m2, ?_, ?_, m3, m4, m5⟩
      · rcases m6 with ⟨e1, e2, e3⟩ | ⟨e1, e2⟩
        · have := act e1; omega
        · omega
      · rcases m6 with ⟨e1, e2, e3⟩ | ⟨e1, e2⟩
        · have := act e1; omega
        · omega
    · simp only [upd_ne e]
      rw [hg b e] at hn
      obtain ⟨m1, m2, m3, m4, m5, m6, m7⟩ := h.M b k o hb hn
      have hnb : (g.acs b).now ≠ none := by rw [hn]; simp
      have out : ∀ t, (t = ys b ∨ t = fs b) → t ∉ rb :: S := fun t ht hm => by
        rw [List.mem_cons] at hm
        rcases hm with hm | hm
        · omega
        · rcases hS t hm with q | q | ⟨q1, q2⟩ | q
          · omega
          · omega
          · have := h.D a b ha hb (fun e2 => e e2.symm) q1 hnb
            have := h.D b a hb ha e hnb q1
            omega
          · omega
      exact ⟨m1.keep u.o (out _ (.inl rfl)) (out _ (.inr rfl)), m2, m3, m4, m5, by omega, by omega⟩
  · have key : ∀ b, b < n → b ≠ a → (g'.acs a).now ≠ none → (g.acs b).now ≠ none → y' ≠ ys b ∧ y' ≠ fs b ∧ f' ≠ ys b ∧ f' ≠ fs b := fun b hb e q1 q2 => by
      cases hn : (g'.acs a).now with
      | none => exact absurd hn q1
      | some ko =>
        obtain ⟨m1, m2, m3, m4, m5, m6⟩ := hM ko.1 ko.2 hn
        cases hn2 : (g.acs b).now with
        | none => exact absurd hn2 q2
        | some kb =>
          obtain ⟨z1, z2, z3, z4, z5, z6, z7⟩ := h.M b kb.1 kb.2 hb hn2
          rcases m6 with ⟨e1, e2, e3⟩ | ⟨e1, e2⟩
          · have d1 := h.D a b ha hb (fun e2 => e e2.symm) e1 q2
            have d2 := h.D b a hb ha e q2 e1
            rw [e2, e3]
            exact ⟨d1.1, d1.2.1, fun e => d2.2.1 e.symm, d1.2.2⟩
          · omega
    by_cases e1 : b1 = a
    · subst e1
      have e2 : b2 ≠ b1 := fun e => hne e.symm
      simp only [upd_same, upd_ne e2]
      rw [hg b2 e2] at n2
      obtain ⟨k1, k2, k3, k4⟩ := key b2 h2 e2 n1 n2
      exact ⟨k1, k2, k4⟩
    · by_cases e2 : b2 = a
      · subst e2
        simp only [upd_same, upd_ne e1]
        rw [hg b1 e1] at n1
        obtain ⟨k1, k2, k3, k4⟩ := key b1 h1 e1 n2 n1
        exact ⟨fun e => k1 e.symm, fun e => k3 e.symm, fun e => k4 e.symm⟩
      · simp only [upd_ne e1, upd_ne e2]
        rw [hg b1 e1] at n1
        rw [hg b2 e2] at n2
        exact h.D b1 b2 h1 h2 hne n1 n2
  · refine (h.F.mono (by simp)).trans u.o (fun t ht => .inr ?_)
    rw [List.mem_cons] at ht
    have hFs := h.F.size
    rcases ht with rfl | ht
    · exact l9
    · rcases low t ht with q | q | q <;> omega

/-- The operations' row stays as it is. -/
theorem RG.ops {w0 w w' : World} {B n c rb r rc : Nat} {ys fs : Nat → Nat} {avs mvs : Nat → Value} {kks vvs : Nat → Int} {g : Gm} (h : RG w0 w B n c rb r rc ys fs avs mvs kks vvs g) {S : List Nat} (o : Only (rb :: S) w w') {y f : Nat} (hS : ∀ t ∈ S, t = r ∨ t = rc ∨ t = y ∨ t = f ∨ w.heap.size ≤ t)
    (hy : w.heap.size ≤ y ∨ ∃ arr T z, w.heap[y]? = some (.cells arr T z) ∧ T ≠ 36) (hf : w.heap.size ≤ f ∨ ∃ arr T z, w.heap[f]? = some (.cells arr T z) ∧ T ≠ 36)
    {v : Value} {m : Nat} {xs : List Value} (hv : w.ownsRow B 36 6 v m xs) : w'.ownsRow B 36 6 v m xs := by
  refine owns_keepS hv o (fun b hb hm => ?_)
  obtain ⟨hbase, arr, hh⟩ := row_blk hv b hb
  have hlt := lt_of_blk hh
  obtain ⟨l1, l2, l3, l4, l5, l6, l7, l8, l9, l10⟩ := h.lt
  have ty : ∀ {t : Nat}, t = b → (w.heap.size ≤ t ∨ ∃ arr T z, w.heap[t]? = some (.cells arr T z) ∧ T ≠ 36) → False := fun e q => by
    subst e
    rcases q with q | ⟨arr2, T, z, q1, q2⟩
    · omega
    · exact typ_ne q1 hh q2 rfl
  rw [List.mem_cons] at hm
  rcases hm with rfl | hm
  · omega
  · rcases hS b hm with q | q | q | q | q
    · omega
    · omega
    · exact ty q.symm hy
    · exact ty q.symm hf
    · omega

/-- A block of operations stays as it is. -/
theorem RG.opb {w0 w w' : World} {B n c rb r rc : Nat} {ys fs : Nat → Nat} {avs mvs : Nat → Value} {kks vvs : Nat → Int} {g : Gm} (h : RG w0 w B n c rb r rc ys fs avs mvs kks vvs g) {S : List Nat} (o : Only (rb :: S) w w') {y f : Nat} (hS : ∀ t ∈ S, t = r ∨ t = rc ∨ t = y ∨ t = f ∨ w.heap.size ≤ t)
    (hy : w.heap.size ≤ y ∨ ∃ arr T z, w.heap[y]? = some (.cells arr T z) ∧ T ≠ 36) (hf : w.heap.size ≤ f ∨ ∃ arr T z, w.heap[f]? = some (.cells arr T z) ∧ T ≠ 36)
    {b : Nat} {arr : Array Value} {z : Nat × Nat} (hbase : B ≤ b) (hh : w.heap[b]? = some (.cells arr 36 z)) : w'.heap[b]? = some (.cells arr 36 z) := by
  refine o.keep hh (fun hm => ?_)
  have hlt := lt_of_blk hh
  obtain ⟨l1, l2, l3, l4, l5, l6, l7, l8, l9, l10⟩ := h.lt
  have ty : ∀ {t : Nat}, t = b → (w.heap.size ≤ t ∨ ∃ arr T z, w.heap[t]? = some (.cells arr T z) ∧ T ≠ 36) → False := fun e q => by
    subst e
    rcases q with q | ⟨arr2, T, z, q1, q2⟩
    · omega
    · exact typ_ne q1 hh q2 rfl
  rw [List.mem_cons] at hm
  rcases hm with rfl | hm
  · omega
  · rcases hS b hm with q | q | q | q | q
    · omega
    · omega
    · exact ty q.symm hy
    · exact ty q.symm hf
    · omega

/-- What a step of an actor comes to. -/
def ActPost (w0 : World) (B n c rb r rc : Nat) (g g' : Gm) (w : World) (e : Ending) (w' : World) : Prop :=
  ∃ (op : HOp) (ok : Bool) (ys fs : Nat → Nat) (avs mvs : Nat → Value) (kks vvs : Nat → Int), e = .returned (.tuple #[op.v, .bool ok]) ∧ RG w0 w' B n c rb r rc ys fs avs mvs kks vvs g' ∧
    (∀ v m xs, w.ownsRow B 36 6 v m xs → w'.ownsRow B 36 6 v m xs) ∧ ((ok = false ∧ g'.ops = g.ops) ∨ (ok = true ∧ g'.ops = g.ops ++ [op])) ∧ (∀ b obj, b < B → b ≠ r → b ≠ rc → b ≠ rb → w.heap[b]? = some obj → w'.heap[b]? = some obj) ∧ (∀ b arr z, B ≤ b → w.heap[b]? = some (.cells arr 36 z) → w'.heap[b]? = some (.cells arr 36 z)) ∧ w.heap.size ≤ w'.heap.size

section
variable {w0 w w' : World} {B n c rb r rc : Nat} {ys fs : Nat → Nat} {avs mvs : Nat → Value} {kks vvs : Nat → Int} {g : Gm}

theorem RG.blocks (h : RG w0 w B n c rb r rc ys fs avs mvs kks vvs g) {a : Nat} (ha : a < n) {k : K} {o : HOp} (hn : (g.acs a).now = some (k, o)) (hov : k.over = false) :
    (∃ arr T z, w.heap[ys a]? = some (.cells arr T z) ∧ T ≠ 36) ∧ (∃ arr T z, w.heap[fs a]? = some (.cells arr T z) ∧ T ≠ 36) := by
  obtain ⟨m1, _⟩ := h.M a k o ha hn
  obtain ⟨r1, r2⟩ := m1.run hov
  exact ⟨⟨_, _, _, r1, by decide⟩, ⟨_, _, _, r2, by decide⟩⟩

theorem RG.stepMore (h : RG w0 w B n c rb r rc ys fs avs mvs kks vvs g) {a : Nat} (ha : a < n) {k : K} {o : HOp} (hn : (g.acs a).now = some (k, o)) (hov : k.over = false) (hmo : (stepK k g.mem).1.over = false)
    (o2 : Only [ys a, fs a, r, rc] w w') (hM : RMach w' (ys a) (fs a) (stepK k g.mem).1) (hE : REnvAt w' r rc (stepK k g.mem).2 0) :
    ActPost w0 B n c rb r rc g (g.stepped a k o) w (.returned (.tuple #[HOp.zero.v, .bool false])) w' := by
  obtain ⟨l1, l2, l3, l4, l5, l6, l7, l8, l9, l10⟩ := h.lt
  obtain ⟨m1, m2, m3, m4, m5, m6, m7⟩ := h.M a k o ha hn
  have hrl : rb < w.heap.size := by omega
  have hS : rb ∉ [ys a, fs a, r, rc] := by simp; omega
  have u : Chg [ys a, fs a, r, rc] rb (a * 5) (a * 5 + 5) w w' := (Chg.refl w).then hrl hS o2
  have ho := stepped_more (g := g) (a := a) (k := k) (o := o) hmo
  have hA := h.A a ha
  have hsn : sinceOf ((g.stepped a k o).acs a) = sinceOf (g.acs a) := by unfold sinceOf; rw [ho.2, hn]
  obtain ⟨b1, b2⟩ := h.blocks ha hn hov
  have act : (g.acs a).now ≠ none := by rw [hn]; simp
  obtain ⟨n1, n2, n3, n4, n5⟩ := h.N a k o ha hn
  obtain ⟨h0, h1, h2, h3, h4⟩ := hA
  refine ⟨HOp.zero, false, _, _, _, _, _, _, rfl, h.next ha (g' := g.stepped a k o) (av' := avs a) (mv' := mvs a) (kk' := kks a) (vv' := vvs a) (y' := ys a) (f' := fs a) u (fun t ht => ?_) (fun b hb => stepped_ne hb) hE ?_ ?_ (fun ad m cp e => ⟨ad, m, cp, e, rfl⟩) (fun k2 o2' e => ?_) (fun k2 o2' e => ?_), fun v m xs hv => h.ops u.o (y := ys a) (f := fs a) (fun t ht => ?_) (.inr b1) (.inr b2) hv, .inl ⟨rfl, ho.1⟩, (fun b obj q1 q2 q3 q4 hb => u.o.keep hb (by simp; omega)), (fun b arr z q1 hb => h.opb u.o (y := ys a) (f := fs a) (fun t ht => by simp at ht; omega) (.inr b1) (.inr b2) q1 hb), u.o.size⟩
  · simp at ht
    rcases ht with e | e | e | e
    · exact .inr (.inr (.inl ⟨act, .inl e⟩))
    · exact .inr (.inr (.inl ⟨act, .inr e⟩))
    · exact .inl e
    · exact .inr (.inl e)
  · rw [hsn]
    have kp : ∀ i, w'.cell? ⟨rb, i, none⟩ = w.cell? ⟨rb, i, none⟩ := fun i => o2.cell (p := ⟨rb, i, none⟩) hrl hS
    exact ⟨by rw [kp]; exact h0, by rw [kp]; exact h1, by rw [kp]; exact h2, by rw [kp]; exact h3, by rw [kp]; exact h4⟩
  · rw [stepped_acts]
    exact (h.V a ha).keep o2 (fun b off m cp e _ => by have := h.VB a ha _ _ _ e; simp only at this; simp; omega)
  · rw [ho.2] at e
    cases e
    exact ⟨n1, n2, n3, n4, n5⟩
  · rw [ho.2] at e
    cases e
    exact ⟨hM, stepK_z0 m2 hmo, m5, Nat.lt_of_lt_of_le m6 o2.size, Nat.lt_of_lt_of_le m7 o2.size, .inl ⟨act, rfl, rfl⟩⟩
  · simp at ht
    rcases ht with e | e | e | e
    · exact .inr (.inr (.inl e))
    · exact .inr (.inr (.inr (.inl e)))
    · exact .inl e
    · exact .inr (.inl e)

theorem RG.stepDone (h : RG w0 w B n c rb r rc ys fs avs mvs kks vvs g) {a : Nat} (ha : a < n) {k : K} {o : HOp} (hn : (g.acs a).now = some (k, o)) (hov : k.over = false) (hdo : (stepK k g.mem).1.over = true)
    (u : Chg [ys a, fs a, r, rc] rb (a * 5) (a * 5 + 5) w w') (hE : REnvAt w' r rc (stepK k g.mem).2 0) {mv' : Value} {kk' vv' : Int} (hA : AcAt w' rb (a * 5) (avs a) mv' kk' vv' (-1)) {op : HOp} (hop : op = finO o g.pick (stepK k g.mem).1.code (stepK k g.mem).1.val) :
    ActPost w0 B n c rb r rc g (g.stepped a k o) w (.returned (.tuple #[op.v, .bool true])) w' := by
  obtain ⟨l1, l2, l3, l4, l5, l6, l7, l8, l9, l10⟩ := h.lt
  obtain ⟨m1, m2, m3, m4, m5, m6, m7⟩ := h.M a k o ha hn
  have ho := stepped_done (g := g) (a := a) (k := k) (o := o) hdo
  have hsn : sinceOf ((g.stepped a k o).acs a) = -1 := by unfold sinceOf; rw [ho.2]
  obtain ⟨b1, b2⟩ := h.blocks ha hn hov
  have act : (g.acs a).now ≠ none := by rw [hn]; simp
  refine ⟨op, true, _, _, _, _, _, _, rfl, h.next ha (g' := g.stepped a k o) (av' := avs a) (mv' := mv') (kk' := kk') (vv' := vv') (y' := ys a) (f' := fs a) u (fun t ht => ?_) (fun b hb => stepped_ne hb) hE (by rw [hsn]; exact hA) ?_ (fun ad m cp e => ⟨ad, m, cp, e, rfl⟩) (fun k2 o2' e => by rw [ho.2] at e; cases e) (fun k2 o2' e => by rw [ho.2] at e; cases e), fun v m xs hv => h.ops u.o (y := ys a) (f := fs a) (fun t ht => ?_) (.inr b1) (.inr b2) hv, .inr ⟨rfl, by rw [ho.1, hop]⟩, (fun b obj q1 q2 q3 q4 hb => u.o.keep hb (by simp; omega)), (fun b arr z q1 hb => h.opb u.o (y := ys a) (f := fs a) (fun t ht => by simp at ht; omega) (.inr b1) (.inr b2) q1 hb), u.o.size⟩
  · simp at ht
    rcases ht with e | e | e | e
    · exact .inr (.inr (.inl ⟨act, .inl e⟩))
    · exact .inr (.inr (.inl ⟨act, .inr e⟩))
    · exact .inl e
    · exact .inr (.inl e)
  · rw [stepped_acts]
    exact (h.V a ha).keep u.o (fun b off m cp e _ => by have := h.VB a ha _ _ _ e; simp only at this; simp; omega)
  · simp at ht
    rcases ht with e | e | e | e
    · exact .inr (.inr (.inl e))
    · exact .inr (.inr (.inr (.inl e)))
    · exact .inl e
    · exact .inr (.inl e)
end
end Go.Proofs.YtfhkhknnoepfeaaGreat
