/- Linearizability, plain: the orders of operations that a list of operations has, and what they say of the values. -/
import Derived.Test.YtfhkhknnoepfeaaGreatDqMem
namespace Go.Proofs.YtfhkhknnoepfeaaGreat

/-- An operation of a deque history. -/
structure HOp where
  kind : Int
  mach : Int
  frm : Int
  to : Int
  code : Int
  value : Int

/-- The list after an operation with its result. -/
def HOp.act (o : HOp) (l : List Int) (cap : Int) : Option (List Int) :=
  if o.code = 0 then if (l.length : Int) < cap then some (l ++ [o.value]) else none
  else if o.code = 3 then if cap ≤ (l.length : Int) then some l else none
  else if o.code = 2 then if l = [] then some l else none
  else if o.code = 4 then some l
  else if l = [] then none
  else if o.kind = 1 then if l.getLastD 0 = o.value then some l.dropLast else none
  else if l.headD 0 = o.value then some l.tail else none

def HOp.formed (o : HOp) : Bool :=
  decide (0 ≤ o.frm) && decide (o.frm ≤ o.to) && decide (0 ≤ o.mach) &&
  (decide (o.kind = 0) && (decide (o.code = 0) || decide (o.code = 3)) ||
   decide (o.kind = 1) && (decide (o.code = 1) || decide (o.code = 2)) ||
   decide (o.kind = 2) && (decide (o.code = 1) || decide (o.code = 2) || decide (o.code = 4)))

def setU (used : Nat → Bool) (i : Nat) : Nat → Bool := fun j => used j || decide (j = i)

/-- May operation i come next? -/
def firstU (f : Nat → HOp) (n : Nat) (used : Nat → Bool) (i : Nat) : Bool :=
  (List.range n).all fun j => used j || decide ((f i).frm ≤ (f j).to)

/-- Some order of k operations that are left exists. -/
def ordr (f : Nat → HOp) (n : Nat) (cap : Int) : Nat → (Nat → Bool) → List Int → Bool
  | 0, _, _ => true
  | k + 1, used, l => (List.range n).any fun i => !used i && (firstU f n used i && match (f i).act l cap with | none => false | some l' => ordr f n cap k (setU used i) l')

theorem ordr_succ {f : Nat → HOp} {n : Nat} {cap : Int} {k : Nat} {used : Nat → Bool} {l : List Int} :
    ordr f n cap (k + 1) used l = true ↔ ∃ i, i < n ∧ used i = false ∧ firstU f n used i = true ∧ ∃ l', (f i).act l cap = some l' ∧ ordr f n cap k (setU used i) l' = true := by
  rw [ordr, List.any_eq_true]
  constructor
  · rintro ⟨i, hi, h⟩
    rw [List.mem_range] at hi
    simp only [Bool.and_eq_true, Bool.not_eq_true'] at h
    obtain ⟨h1, h2, h3⟩ := h
    cases ha : (f i).act l cap with
    | none => rw [ha] at h3; cases h3
    | some l' => rw [ha] at h3; exact ⟨i, hi, h1, h2, l', ha, h3⟩
  · rintro ⟨i, hi, h1, h2, l', ha, h3⟩
    exact ⟨i, List.mem_range.2 hi, by simp only [Bool.and_eq_true, Bool.not_eq_true']; rw [ha]; exact ⟨h1, h2, h3⟩⟩

theorem countP_set (p : Nat → Bool) (used : Nat → Bool) (i : Nat) (hi : used i = false) : ∀ n, i < n → (List.range n).countP (fun j => !used j && p j) = (List.range n).countP (fun j => !setU used i j && p j) + (if p i then 1 else 0) := by
  have low : ∀ n, n ≤ i → (List.range n).countP (fun j => !used j && p j) = (List.range n).countP (fun j => !setU used i j && p j) := by
    intro n hn
    refine List.countP_congr fun j hj => ?_
    rw [List.mem_range] at hj
    have : ¬ j = i := by omega
    simp [setU, this]
  intro n
  induction n with
  | zero => intro h; omega
  | succ n ih =>
    intro h
    rw [List.range_succ, List.countP_append, List.countP_append, List.countP_singleton, List.countP_singleton]
    rcases Nat.lt_or_ge i n with g | g
    · have hne : ¬ n = i := by omega
      rw [ih g]
      simp only [setU, hne, decide_false, Bool.or_false]
      omega
    · obtain rfl : n = i := by omega
      rw [low n (Nat.le_refl _)]
      simp [setU, hi]

/-- Does an operation push, or take, the value v? -/
def HOp.pushes (v : Int) (o : HOp) : Bool := decide (o.kind = 0) && decide (o.code = 0) && decide (o.value = v)
def HOp.takes (v : Int) (o : HOp) : Bool := !decide (o.kind = 0) && decide (o.code = 1) && decide (o.value = v)

theorem act_count {o : HOp} (hf : o.formed = true) {l l' : List Int} {cap : Int} (h : o.act l cap = some l') (v : Int) :
    l'.count v + (if o.takes v then 1 else 0) = l.count v + (if o.pushes v then 1 else 0) := by
  unfold HOp.act at h
  simp only [HOp.formed, Bool.and_eq_true, Bool.or_eq_true, decide_eq_true_eq] at hf
  obtain ⟨_, hf⟩ := hf
  split at h
  · next hc =>
    have hk : o.kind = 0 := by omega
    split at h
    · cases h
      by_cases hv : o.value = v
      · simp [HOp.takes, HOp.pushes, hc, hk, hv]
      · simp [HOp.takes, HOp.pushes, hc, hk, hv]
    · cases h
  · next hc0 =>
    have hp : o.pushes v = false := by simp [HOp.pushes, hc0]
    rw [hp]
    split at h
    · next hc =>
      split at h
      · cases h; simp [HOp.takes, hc]
      · cases h
    · next hc3 =>
      split at h
      · next hc =>
        split at h
        · cases h; simp [HOp.takes, hc]
        · cases h
      · next hc2 =>
        split at h
        · next hc => cases h; simp [HOp.takes, hc]
        · next hc4 =>
          have hc1 : o.code = 1 := by omega
          have hk : ¬ o.kind = 0 := by omega
          split at h
          · cases h
          · next hl =>
            split at h
            · split at h
              · next hv =>
                cases h
                have e0 : l.getLastD 0 = l.getLast hl := by
                  cases l with
                  | nil => exact absurd rfl hl
                  | cons y r => rfl
                have e : l = l.dropLast ++ [o.value] := by rw [← hv, e0, List.dropLast_concat_getLast]
                have := congrArg (List.count v) e
                rw [List.count_append] at this
                simp only [HOp.takes, hk, hc1, decide_false, decide_true, Bool.not_false, Bool.true_and, Bool.and_true, decide_eq_true_eq]
                by_cases hv2 : o.value = v
                · simp [hv2] at this ⊢; omega
                · simp [hv2] at this ⊢; omega
              · cases h
            · split at h
              · next hv =>
                cases h
                cases l with
                | nil => exact absurd rfl hl
                | cons y r =>
                  simp only [List.headD_cons] at hv
                  simp only [List.tail_cons, HOp.takes, hk, hc1, decide_false, decide_true, Bool.not_false, Bool.true_and, Bool.and_true, decide_eq_true_eq]
                  by_cases hv2 : o.value = v
                  · simp [hv2, hv]
                  · simp [hv2, hv]
              · cases h

/-- Where an order exists, what is taken was there or is pushed. -/
theorem ordr_count {f : Nat → HOp} {n : Nat} {cap : Int} (hf : ∀ i, i < n → (f i).formed = true) (v : Int) : ∀ k used l, (List.range n).countP (fun j => !used j && true) = k → ordr f n cap k used l = true →
    (List.range n).countP (fun j => !used j && (f j).takes v) ≤ l.count v + (List.range n).countP (fun j => !used j && (f j).pushes v) := by
  intro k
  induction k with
  | zero =>
    intro used l hk _
    have : (List.range n).countP (fun j => !used j && (f j).takes v) ≤ (List.range n).countP (fun j => !used j && true) := List.countP_mono_left fun j _ h => by simp at h ⊢; exact h.1
    omega
  | succ k ih =>
    intro used l hk h
    obtain ⟨i, hi, hu, _, l', ha, ho⟩ := ordr_succ.1 h
    have e0 := countP_set (fun _ => true) used i hu n hi
    have e1 := countP_set (fun j => (f j).takes v) used i hu n hi
    have e2 := countP_set (fun j => (f j).pushes v) used i hu n hi
    have e3 := act_count (hf i hi) ha v
    have := ih (setU used i) l' (by simp at e0 hk ⊢; omega) ho
    omega

/-- No value is taken more often than it is pushed. -/
theorem ordr_supplied {f : Nat → HOp} {n : Nat} {cap : Int} (hf : ∀ i, i < n → (f i).formed = true) (h : ordr f n cap n (fun _ => false) [] = true) (v : Int) :
    (List.range n).countP (fun j => (f j).takes v) ≤ (List.range n).countP (fun j => (f j).pushes v) := by
  have := ordr_count hf v n (fun _ => false) [] (by simp) h
  simpa using this
end Go.Proofs.YtfhkhknnoepfeaaGreat

/- Which operations are well-formed, walked. -/
namespace Go.Proofs.YtfhkhknnoepfeaaGreat
open Go.RowKit
set_option linter.unusedVariables false

def HOp.v (o : HOp) : Value := .agg #[.int .i64 o.kind, .int .i64 o.mach, .int .i64 o.frm, .int .i64 o.to, .int .i64 o.code, .int .i64 o.value]

set_option maxRecDepth 100000 in
theorem formed_any (w : World) (o : HOp) :
    Calls Tryz.prog 24 #[o.v] w fun e w' => e = .returned (.bool o.formed) ∧ Only [] w w' := by
  obtain ⟨k, m, f, t, c, v⟩ := o
  simp only [HOp.v, HOp.formed]
  go_enter Tryz.func24, Tryz.ntmps24
  go_wp2_with fail
  all_goals (go_ret; refine ⟨?_, (Only.refl _ _).alloc _⟩)
  all_goals simp only [beq_iff_eq, beq_eq_false_iff_ne] at *
  all_goals refine congrArg (fun b => Ending.returned (Value.bool b)) ?_
  all_goals rw [Bool.eq_iff_iff]
  all_goals simp
  all_goals omega

set_option maxRecDepth 100000 in
theorem refFormed_any (w : World) (o : HOp) :
    Calls Tryz.prog 28 #[o.v] w fun e w' => e = .returned (.bool o.formed) ∧ Only [] w w' := by
  obtain ⟨k, m, f, t, c, v⟩ := o
  simp only [HOp.v, HOp.formed]
  go_enter Tryz.func28, Tryz.ntmps28
  go_wp2_with fail
  all_goals (go_ret; refine ⟨?_, (Only.refl _ _).alloc _⟩)
  all_goals simp only [beq_iff_eq, beq_eq_false_iff_ne] at *
  all_goals refine congrArg (fun b => Ending.returned (Value.bool b)) ?_
  all_goals rw [Bool.eq_iff_iff]
  all_goals simp
  all_goals omega
end Go.Proofs.YtfhkhknnoepfeaaGreat

/- Lists of operations; two equal ones are the same, walked. -/
namespace Go.Proofs.YtfhkhknnoepfeaaGreat
open Go.RowKit
set_option linter.unusedVariables false

instance : Inhabited HOp := ⟨⟨0, 0, 0, 0, 0, 0⟩⟩
def HOp.zero : HOp := ⟨0, 0, 0, 0, 0, 0⟩

/-- Operation o lies at a place. -/
def OpAt (w : World) (b p : Nat) (o : HOp) : Prop :=
  w.cell? ⟨b, p, none⟩ = some (.int .i64 o.kind) ∧ w.cell? ⟨b, p + 1, none⟩ = some (.int .i64 o.mach) ∧ w.cell? ⟨b, p + 2, none⟩ = some (.int .i64 o.frm) ∧
  w.cell? ⟨b, p + 3, none⟩ = some (.int .i64 o.to) ∧ w.cell? ⟨b, p + 4, none⟩ = some (.int .i64 o.code) ∧ w.cell? ⟨b, p + 5, none⟩ = some (.int .i64 o.value)
theorem OpAt.keep {w w' : World} {b p : Nat} {o : HOp} {S : List Nat} (h : OpAt w b p o) (ho : Only S w w') (hb : b ∉ S) : OpAt w' b p o := by
  obtain ⟨h1, h2, h3, h4, h5, h6⟩ := h
  exact ⟨ho.keepCell h1 hb, ho.keepCell h2 hb, ho.keepCell h3 hb, ho.keepCell h4 hb, ho.keepCell h5 hb, ho.keepCell h6 hb⟩

/-- v is a slice of operations. -/
def OL (w : World) (v : Value) (l : List HOp) : Prop :=
  ∃ ao cap, v = .slice ao l.length cap ∧ l.length ≤ cap ∧ (0 < l.length → ∃ b off, ao = some ⟨b, off, none⟩ ∧ ∀ i, i < l.length → OpAt w b (off + i * 6) (l.getD i HOp.zero))
theorem OL.keep {w w' : World} {v : Value} {l : List HOp} (h : OL w v l) (o : Only [] w w') : OL w' v l := by
  obtain ⟨ao, cap, rfl, hc, h⟩ := h
  refine ⟨ao, cap, rfl, hc, fun hp => ?_⟩
  obtain ⟨b, off, e, hh⟩ := h hp
  exact ⟨b, off, e, fun i hi => (hh i hi).keep o (by simp)⟩

set_option maxRecDepth 100000 in
theorem refSameOps_any (w : World) (v1 v2 : Value) (l : List HOp) (h1 : OL w v1 l) (h2 : OL w v2 l) (hn : l.length ≤ 4000000000000) :
    Calls Tryz.prog 10 #[v1, v2] w fun e w' => e = .returned (.bool true) ∧ Only [] w w' := by
  obtain ⟨ao, c1, rfl, _, g1⟩ := h1
  obtain ⟨bo, c2, rfl, _, g2⟩ := h2
  obtain ⟨n, hnn⟩ : ∃ n, n = l.length := ⟨_, rfl⟩
  rw [← hnn] at hn g1 g2 ⊢
  have G1 := Lib.hid g1
  have G2 := Lib.hid g2
  clear g1 g2 hnn
  go_enter Tryz.func10, Tryz.ntmps10
  go_wp2_with fail
  go_loopw [5] (fun i wr => ∃ k : Nat, k ≤ n ∧ i = .int .i64 k ∧ Only [] w wr) (fun i _ => n - (intOf i).toNat)
  case atStart => exact ⟨0, Nat.zero_le _, rfl, Only.refl _ _⟩
  case round =>
    obtain ⟨k, hk, rfl, hP⟩ := hrel
    have P := Lib.hid hP
    by_cases hlt : k < n
    · obtain ⟨b, off, rfl, hc⟩ := G1.out (by omega)
      obtain ⟨b', off', rfl, hd⟩ := G2.out (by omega)
      obtain ⟨o, ho⟩ : ∃ o, o = l.getD k HOp.zero := ⟨_, rfl⟩
      have e1 := fun q => (hc k hlt).keep (P.out.drewN q) (by simp)
      have e2 := fun q => (hd k hlt).keep (P.out.drewN q) (by simp)
      have e3 := (hc k hlt).keep P.out (by simp)
      have e4 := (hd k hlt).keep P.out (by simp)
      rw [← ho] at e1 e2 e3 e4
      unfold OpAt at e1 e2 e3 e4
      obtain ⟨k0, m0, f0, t0, d0, v0⟩ := o
      clear hc hd ho hP
      go_wp2_with fail
      go_quiet (fail)
      go_wp2_with fail
      go_roundw
      case rel => exact ⟨k + 1, by omega, by go_num, P.out.drewN _⟩
      case measure => simp [intOf] <;> omega
    · obtain rfl : k = n := by omega
      clear hP
      go_wp2_with fail
      go_ret
      exact ⟨rfl, P.out⟩
end Go.Proofs.YtfhkhknnoepfeaaGreat
