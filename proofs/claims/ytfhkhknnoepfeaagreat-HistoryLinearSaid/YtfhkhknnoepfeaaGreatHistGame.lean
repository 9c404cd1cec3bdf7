/- The game in memory, and what its changes keep. -/
import Derived.Test.YtfhkhknnoepfeaaGreatHistStep
namespace Go.Proofs.YtfhkhknnoepfeaaGreat
open Go.RowKit
set_option linter.unusedVariables false

/-- The game's block. -/
def gameO (en c : Nat) (rv : Value) (pick : Nat) (opsV : Value) : Obj := .cells #[.pointer (some ⟨en, 0, none⟩), .int .i64 0, .int .i64 1, .int .i64 2, .int .i64 c, rv, .int .i64 pick, opsV] 53 (0, 0)
/-- The value of an actor's machine. -/
def pvO (v : Ac) (p : Nat) : Value := match v.now with
  | none => .nilIface
  | some (k, _) => ifc k.kind p

/-- How the game's blocks lie to each other; those below B are there from the start on. -/
structure GD (w0 : World) (B n gb en m bc ck rb : Nat) (abs : Nat → Nat) : Prop where
  lo : w0.heap.size ≤ gb ∧ w0.heap.size ≤ m ∧ w0.heap.size ≤ bc
  hi : gb < B ∧ en < B ∧ m < B ∧ bc < B ∧ ck < B ∧ rb < B
  g : gb ≠ en ∧ gb ≠ m ∧ gb ≠ bc ∧ gb ≠ ck ∧ gb ≠ rb
  r : rb ≠ m ∧ rb ≠ bc
  a : ∀ a, a < n → w0.heap.size ≤ abs a ∧ abs a < B ∧ abs a ≠ gb ∧ abs a ≠ en ∧ abs a ≠ m ∧ abs a ≠ bc ∧ abs a ≠ ck ∧ abs a ≠ rb
  inj : ∀ a b, a < n → b < n → abs a = abs b → a = b

/-- The game g lies in w. -/
structure GW (w0 : World) (B n c gb en m bc ck rb : Nat) (abs : Nat → Nat) (ps : Nat → Nat) (os : Nat → HOp) (avs : Nat → Value) (opsV rv : Value) (g : Gm) (w : World) : Prop where
  E : EnvAt w en m bc ck g.mem 0
  G : w.heap[gb]? = some (gameO en c rv g.pick opsV)
  A : ∀ a, a < n → w.heap[abs a]? = some (actO a (avs a) (pvO (g.acs a) (ps a)) (os a))
  V : ∀ a, a < n → ActsAt w (avs a) (g.acs a).acts
  VB : ∀ a, a < n → ∀ b off k cap, avs a = .slice (some ⟨b, off, none⟩) k cap → b < B ∧ b ≠ gb ∧ b ≠ m ∧ b ≠ bc ∧ ∀ a', a' < n → b ≠ abs a'
  M : ∀ a, a < n → ∀ k o, (g.acs a).now = some (k, o) → B ≤ ps a ∧ w.heap[ps a]? = some (machO k) ∧ os a = o
  inj : ∀ a b, a < n → b < n → (g.acs a).now ≠ none → (g.acs b).now ≠ none → ps a = ps b → a = b
  O : w.ownsRow B 36 6 opsV g.ops.length (flatO g.ops)
  R : ∃ cap arr, rv = .slice (some ⟨rb, 0, none⟩) n cap ∧ n ≤ cap ∧ w.heap[rb]? = some (.cells arr 54 (0, 0)) ∧ ∀ a, a < n → arr[a]? = some (.pointer (some ⟨abs a, 0, none⟩))
  F : Only [] w0 w
  sz : B ≤ w.heap.size

section
variable {w0 : World} {B n c gb en m bc ck rb : Nat} {abs : Nat → Nat} {ps : Nat → Nat} {os : Nat → HOp} {avs : Nat → Value} {opsV rv : Value} {g : Gm} {w : World}

/-- A machine's block holds no operations. -/
theorem mach_ops {k : K} {p b : Nat} {arr : Array Value} {f : Nat × Nat} (h : w.heap[p]? = some (machO k)) (hb : w.heap[b]? = some (.cells arr 36 f)) : b ≠ p := by
  intro e
  subst e
  rw [h] at hb
  unfold machO pushO popO stealO at hb
  split at hb <;> simp at hb
theorem ops_blk {len : Nat} {xs : List Value} (h : w.ownsRow B 36 6 opsV len xs) : ∀ b, opsV.ownBlock = some b → B ≤ b ∧ ∃ arr, w.heap[b]? = some (.cells arr 36 (0, 0)) := by
  intro b hb
  obtain ⟨h1, ⟨rfl, _⟩ | ⟨g, cap, cur, rfl, hg, hh, r⟩⟩ := h
  · cases hb
  · cases hb; exact ⟨hg, cur, hh⟩
theorem GW.opsNe (h : GW w0 B n c gb en m bc ck rb abs ps os avs opsV rv g w) {a : Nat} (ha : a < n) {k : K} {o : HOp} (hk : (g.acs a).now = some (k, o)) : ∀ b, opsV.ownBlock = some b → b ≠ ps a := fun b hb => by
  obtain ⟨_, arr, hh⟩ := ops_blk h.O b hb
  exact mach_ops (h.M a ha k o hk).2.1 hh

theorem GW.keep0 {w' : World} (h : GW w0 B n c gb en m bc ck rb abs ps os avs opsV rv g w) (o : Only [] w w') : GW w0 B n c gb en m bc ck rb abs ps os avs opsV rv g w' := by
  obtain ⟨cap, arr, e1, e2, e3, e4⟩ := h.R
  exact ⟨h.E.keep0 o, o.keep h.G (by simp), fun a ha => o.keep (h.A a ha) (by simp), fun a ha => (h.V a ha).keep0 o, h.VB, fun a ha k op hk => ⟨(h.M a ha k op hk).1, o.keep (h.M a ha k op hk).2.1 (by simp), (h.M a ha k op hk).2.2⟩, h.inj, owns_keep h.O o, ⟨cap, arr, e1, e2, o.keep e3 (by simp), e4⟩, h.F.then0 o, Nat.le_trans h.sz o.size⟩

/-- The number of the pick. -/
theorem GW.setPick (h : GW w0 B n c gb en m bc ck rb abs ps os avs opsV rv g w) (d : GD w0 B n gb en m bc ck rb abs) : GW w0 B n c gb en m bc ck rb abs ps os avs opsV rv { g with pick := g.pick + 1 } (w.setCell ⟨gb, 6, none⟩ (.int .i64 ((g.pick : Int) + 1))) := by
  have o : Only [gb] w (w.setCell ⟨gb, 6, none⟩ (.int .i64 ((g.pick : Int) + 1))) := (Only.refl _ _).setCell (by simp) _
  obtain ⟨cap, arr, e1, e2, e3, e4⟩ := h.R
  have d1 := d.g
  have d2 := d.hi
  refine ⟨h.E.keep o (by simp; omega) (by simp; omega) (by simp; omega) (by simp; omega), ?_, fun a ha => o.keep (h.A a ha) (by have := d.a a ha; simp; omega), fun a ha => (h.V a ha).keep o (fun b off k cap e _ => by have := h.VB a ha b off k cap e; simp; omega), h.VB,
    fun a ha k op hk => ⟨(h.M a ha k op hk).1, o.keep (h.M a ha k op hk).2.1 (by have := (h.M a ha k op hk).1; simp; omega), (h.M a ha k op hk).2.2⟩, h.inj, owns_keepS h.O o (fun b hb => by have := (ops_blk h.O b hb).1; simp; omega), ⟨cap, arr, e1, e2, o.keep e3 (by simp; omega), e4⟩, h.F.trans o (by have := d.lo; simp; omega), Nat.le_trans h.sz o.size⟩
  have e := blk_setCell (show w.heap[gb]? = some (.cells _ _ _) from h.G) 6 (.int .i64 ((g.pick : Int) + 1))
  simp only [List.setIfInBounds_toArray, List.set_cons_zero, List.set_cons_succ] at e
  rw [e]
  simp [gameO]

/-- An actor begins. -/
theorem GW.begun {w' : World} {a : Nat} {x : Int × Int} {r : List (Int × Int)} {pick p : Nat} {av : Value} (h : GW w0 B n c gb en m bc ck rb abs ps os avs opsV rv g w) (d : GD w0 B n gb en m bc ck rb abs) (ha : a < n) (hn : (g.acs a).now = none) (hx : (g.acs a).acts = x :: r)
    (o : Only [abs a] w w') (hA : w'.heap[abs a]? = some (actO a av (ifc (newK (q0 c) x).kind p) (op0 a pick x))) (hv : ActsAt w' av r) (hp : w'.heap[p]? = some (machO (newK (q0 c) x))) (lo : w.heap.size ≤ p)
    (hb : ∀ b off k cap, av = .slice (some ⟨b, off, none⟩) k cap → ∃ off2 n2 cap2, w.cell? ⟨abs a, 1, none⟩ = some (.slice (some ⟨b, off2, none⟩) n2 cap2)) :
    GW w0 B n c gb en m bc ck rb abs (upd ps a p) (upd os a (op0 a pick x)) (upd avs a av) opsV rv (g.set a ⟨r, some (newK (q0 c) x, op0 a pick x)⟩) w' := by
  obtain ⟨cap, arr, e1, e2, e3, e4⟩ := h.R
  have d1 := d.g
  have d2 := d.hi
  have d3 := d.a a ha
  have c1 := cell_blk (show w.heap[abs a]? = some (.cells _ _ _) from h.A a ha) 1
  have hVBa : ∀ b off k cap, av = .slice (some ⟨b, off, none⟩) k cap → b < B ∧ b ≠ gb ∧ b ≠ m ∧ b ≠ bc ∧ ∀ a', a' < n → b ≠ abs a' := fun b off k cap e => by
    obtain ⟨off2, n2, cap2, e5⟩ := hb b off k cap e
    rw [c1] at e5
    simp at e5
    exact h.VB a ha b off2 n2 cap2 e5
  refine ⟨h.E.keep o (by simp; omega) (by simp; omega) (by simp; omega) (by simp; omega), o.keep h.G (by simp; omega), fun b hb => ?_, fun b hb => ?_, fun b hb => ?_, fun b hb k op hk => ?_, fun b1 b2 h1 h2 h3 h4 h5 => ?_, owns_keepS h.O o (fun b hb => by have := (ops_blk h.O b hb).1; simp; omega), ⟨cap, arr, e1, e2, o.keep e3 (by simp; omega), e4⟩, h.F.trans o (by simp; omega), Nat.le_trans h.sz o.size⟩
  · by_cases g0 : b = a
    · subst g0
      rw [upd_same, upd_same, upd_same, set_same]
      exact hA
    · rw [upd_ne g0, upd_ne g0, upd_ne g0, set_ne g0]
      exact o.keep (h.A b hb) (by have := d.inj b a hb ha; simp; exact fun e => g0 (this e))
  · by_cases g0 : b = a
    · subst g0; rw [upd_same, set_same]; exact hv
    · rw [upd_ne g0, set_ne g0]
      exact (h.V b hb).keep o (fun b2 off k cap e _ => by have := (h.VB b hb b2 off k cap e).2.2.2.2 a ha; simp; omega)
  · by_cases g0 : b = a
    · subst g0; rw [upd_same]; exact hVBa
    · rw [upd_ne g0]; exact h.VB b hb
  · by_cases g0 : b = a
    · subst g0
      rw [set_same] at hk
      cases hk
      rw [upd_same, upd_same]
      exact ⟨Nat.le_trans h.sz lo, hp, rfl⟩
    · rw [set_ne g0] at hk
      rw [upd_ne g0, upd_ne g0]
      have := h.M b hb k op hk
      exact ⟨this.1, o.keep this.2.1 (by simp; omega), this.2.2⟩
  · have fresh : ∀ b, b < n → b ≠ a → (g.acs b).now ≠ none → ps b ≠ p := fun b hb _ hn2 => by
      cases e5 : (g.acs b).now with
      | none => exact absurd e5 hn2
      | some ko => have := lt_of_blk (h.M b hb ko.1 ko.2 e5).2.1; omega
    by_cases q1 : b1 = a
    · by_cases q2 : b2 = a
      · omega
      · subst q1
        rw [upd_same, upd_ne q2] at h5
        rw [set_ne q2] at h4
        exact absurd h5.symm (fresh b2 h2 q2 h4)
    · by_cases q2 : b2 = a
      · subst q2
        rw [upd_same, upd_ne q1] at h5
        rw [set_ne q1] at h3
        exact absurd h5 (fresh b1 h1 q1 h3)
      · rw [upd_ne q1, upd_ne q2] at h5
        rw [set_ne q1] at h3
        rw [set_ne q2] at h4
        exact h.inj b1 b2 h1 h2 h3 h4 h5

/-- A machine has made a step. -/
theorem GW.mach {w' : World} {a : Nat} {k k' : K} {op : HOp} {s' : MS} (h : GW w0 B n c gb en m bc ck rb abs ps os avs opsV rv g w) (d : GD w0 B n gb en m bc ck rb abs) (ha : a < n) (hk : (g.acs a).now = some (k, op)) (hkk : k'.kind = k.kind)
    (o : Only [ps a, m, bc] w w') (hp : w'.heap[ps a]? = some (machO k')) (hM : MemAt w' m bc s') :
    GW w0 B n c gb en m bc ck rb abs ps os avs opsV rv ({ g with mem := s', acs := upd g.acs a ⟨(g.acs a).acts, some (k', op)⟩ }) w' := by
  obtain ⟨cap, arr, e1, e2, e3, e4⟩ := h.R
  have d1 := d.g
  have d2 := d.hi
  have d3 := d.r
  have hB := (h.M a ha k op hk).1
  have un2 : ∀ b, (upd g.acs a ⟨(g.acs a).acts, some (k', op)⟩ b).now ≠ none → (g.acs b).now ≠ none := fun b e => by
    by_cases g0 : b = a
    · subst g0; rw [hk]; simp
    · rw [upd_ne g0] at e; exact e
  refine ⟨⟨o.keep h.E.e (by have := h.E.em; have := h.E.ec; simp; omega), o.keep h.E.c (by have := h.E.km; have := h.E.kc; simp; omega), hM, h.E.em, h.E.ec, h.E.ek, h.E.km, h.E.kc⟩, o.keep h.G (by simp; omega), fun b hb => ?_, fun b hb => ?_, h.VB, fun b hb k2 op2 hk2 => ?_, fun b1 b2 h1 h2 h3 h4 h5 => h.inj b1 b2 h1 h2 (un2 _ h3) (un2 _ h4) h5, owns_keepS h.O o (fun b hb => ?_), ⟨cap, arr, e1, e2, o.keep e3 (by simp; omega), e4⟩, h.F.trans o (by have := d.lo; have := h.F.size; have := h.sz; have := d.hi; simp; omega), Nat.le_trans h.sz o.size⟩
  · have hA := o.keep (h.A b hb) (by have := d.a b hb; simp; omega)
    by_cases g0 : b = a
    · subst g0
      have e5 : pvO (upd g.acs b ⟨(g.acs b).acts, some (k', op)⟩ b) (ps b) = pvO (g.acs b) (ps b) := by rw [upd_same]; unfold pvO; rw [hk]; simp only [hkk]
      show _ = some (actO b (avs b) (pvO (upd g.acs b ⟨(g.acs b).acts, some (k', op)⟩ b) (ps b)) (os b))
      rw [e5]; exact hA
    · show _ = some (actO b (avs b) (pvO (upd g.acs a ⟨(g.acs a).acts, some (k', op)⟩ b) (ps b)) (os b))
      rw [upd_ne g0]; exact hA
  · have hV := (h.V b hb).keep o (fun b2 off k cap e _ => by have := h.VB b hb b2 off k cap e; simp; omega)
    by_cases g0 : b = a
    · subst g0
      show ActsAt w' (avs b) (upd g.acs b ⟨(g.acs b).acts, some (k', op)⟩ b).acts
      rw [upd_same]; exact hV
    · show ActsAt w' (avs b) (upd g.acs a ⟨(g.acs a).acts, some (k', op)⟩ b).acts
      rw [upd_ne g0]; exact hV
  · replace hk2 : (upd g.acs a ⟨(g.acs a).acts, some (k', op)⟩ b).now = some (k2, op2) := hk2
    by_cases g0 : b = a
    · subst g0
      rw [upd_same] at hk2
      cases hk2
      exact ⟨hB, hp, (h.M b ha k op hk).2.2⟩
    · rw [upd_ne g0] at hk2
      have := h.M b hb k2 op2 hk2
      refine ⟨this.1, o.keep this.2.1 ?_, this.2.2⟩
      have hne : ps b ≠ ps a := fun e => g0 (h.inj b a hb ha (by rw [hk2]; simp) (by rw [hk]; simp) e)
      simp
      omega
  · have := (ops_blk h.O b hb).1
    have := h.opsNe ha hk b hb
    simp
    omega

/-- An operation is done. -/
theorem GW.done {w' : World} {a : Nat} {k : K} {op fo : HOp} {opsV' : Value} (h : GW w0 B n c gb en m bc ck rb abs ps os avs opsV rv g w) (d : GD w0 B n gb en m bc ck rb abs) (ha : a < n) (hk : (g.acs a).now = some (k, op)) {S : List Nat}
    (o : Only S w w') (hS : ∀ b ∈ S, b = gb ∨ b = abs a ∨ opsV.ownBlock = some b) (hA : w'.heap[abs a]? = some (actO a (avs a) .nilIface fo)) (hG : w'.heap[gb]? = some (gameO en c rv g.pick opsV')) (hO : w'.ownsRow B 36 6 opsV' (g.ops ++ [fo]).length (flatO (g.ops ++ [fo]))) :
    GW w0 B n c gb en m bc ck rb abs ps (upd os a fo) avs opsV' rv ({ g with acs := upd g.acs a ⟨(g.acs a).acts, none⟩, ops := g.ops ++ [fo] }) w' := by
  obtain ⟨cap, arr, e1, e2, e3, e4⟩ := h.R
  have d1 := d.g
  have d2 := d.hi
  have d3 := d.a a ha
  have notIn : ∀ b, b ≠ gb → b ≠ abs a → opsV.ownBlock ≠ some b → b ∉ S := fun b h1 h2 h3 h4 => by
    rcases hS b h4 with e | e | e
    · exact h1 e
    · exact h2 e
    · exact h3 e
  have low : ∀ b, b < B → opsV.ownBlock ≠ some b := fun b hb e => by have := (ops_blk h.O b e).1; omega
  have un2 : ∀ b, (upd g.acs a ⟨(g.acs a).acts, none⟩ b).now ≠ none → (g.acs b).now ≠ none ∧ b ≠ a := fun b e => by
    by_cases g0 : b = a
    · subst g0; rw [upd_same] at e; exact absurd rfl e
    · rw [upd_ne g0] at e; exact ⟨e, g0⟩
  refine ⟨h.E.keep o (notIn _ (by omega) (by omega) (low _ (by omega))) (notIn _ (by omega) (by omega) (low _ (by omega))) (notIn _ (by omega) (by omega) (low _ (by omega))) (notIn _ (by omega) (by omega) (low _ (by omega))), hG, fun b hb => ?_, fun b hb => ?_, h.VB, fun b hb k2 op2 hk2 => ?_, fun b1 b2 h1 h2 h3 h4 h5 => h.inj b1 b2 h1 h2 (un2 _ h3).1 (un2 _ h4).1 h5, hO, ⟨cap, arr, e1, e2, o.keep e3 (notIn _ (by omega) (by omega) (low _ (by omega))), e4⟩, h.F.trans o (fun b hb => ?_), Nat.le_trans h.sz o.size⟩
  · by_cases g0 : b = a
    · subst g0
      show _ = some (actO b (avs b) (pvO (upd g.acs b ⟨(g.acs b).acts, none⟩ b) (ps b)) (upd os b fo b))
      rw [upd_same, upd_same]; exact hA
    · show _ = some (actO b (avs b) (pvO (upd g.acs a ⟨(g.acs a).acts, none⟩ b) (ps b)) (upd os a fo b))
      rw [upd_ne g0, upd_ne g0]
      have d4 := d.a b hb
      exact o.keep (h.A b hb) (notIn _ (by omega) (fun e => g0 (d.inj b a hb ha e)) (low _ (by omega)))
  · have hV := (h.V b hb).keep o (fun b2 off k cap e _ => by have hb2 := h.VB b hb b2 off k cap e; exact notIn _ (by omega) (hb2.2.2.2.2 a ha) (low _ (by omega)))
    by_cases g0 : b = a
    · subst g0
      show ActsAt w' (avs b) (upd g.acs b ⟨(g.acs b).acts, none⟩ b).acts
      rw [upd_same]; exact hV
    · show ActsAt w' (avs b) (upd g.acs a ⟨(g.acs a).acts, none⟩ b).acts
      rw [upd_ne g0]; exact hV
  · replace hk2 : (upd g.acs a ⟨(g.acs a).acts, none⟩ b).now = some (k2, op2) := hk2
    by_cases g0 : b = a
    · subst g0; rw [upd_same] at hk2; cases hk2
    · rw [upd_ne g0] at hk2
      rw [upd_ne g0]
      have := h.M b hb k2 op2 hk2
      exact ⟨this.1, o.keep this.2.1 (notIn _ (by omega) (by omega) (fun e => h.opsNe hb hk2 _ e rfl)), this.2.2⟩
  · have := h.F.size
    have := h.sz
    have := d.lo
    rcases hS b hb with e | e | e
    · right; omega
    · right; omega
    · have := (ops_blk h.O b e).1
      right; omega
end
end Go.Proofs.YtfhkhknnoepfeaaGreat
