/- The accesses of the reference's environment, wherever the cell lies. -/
import Derived.Test.YtfhkhknnoepfeaaGreatBareEnv
import Derived.Deep.RegionHeld3
import Derived.StillTailTactics
import Derived.Deep.QuietTactic
import Derived.BigQuiet
namespace Go.Proofs.YtfhkhknnoepfeaaGreat
open Go.RowKit
set_option linter.unusedVariables false

theorem REnvAt.keep {S : List Nat} {w w' : World} {r rc : Nat} {s : MS} {now : Int} (h : REnvAt w r rc s now) (ho : Only S w w') (h1 : r ∉ S) (h2 : rc ∉ S) : REnvAt w' r rc s now := RMemAt.keep h ho h1 h2
theorem REnvAt.keep0 {w w' : World} {r rc : Nat} {s : MS} {now : Int} (h : REnvAt w r rc s now) (ho : Only [] w w') : REnvAt w' r rc s now := h.keep ho (by simp) (by simp)
theorem REnvAt.lt {w : World} {r rc : Nat} {s : MS} {now : Int} (h : REnvAt w r rc s now) : r < w.heap.size := by
  obtain ⟨v, h1, _⟩ := h
  exact lt_of_blk h1
theorem REnvAt.ne {w : World} {r rc : Nat} {s : MS} {now : Int} (h : REnvAt w r rc s now) : rc ≠ r := by
  obtain ⟨v, _, _, h, _⟩ := h
  exact h
theorem cfg0_len : cfg0.length = 11 := rfl

/-- An access of the reference's memory in its environment. -/
theorem racc1_any (w : World) (r rc : Nat) (s : MS) (now c : Int) (h : REnvAt w r rc s now) (hn : s.count ≤ 4000000000000000000) :
    Calls Tryz.prog 86 #[.pointer (some ⟨r, 11, none⟩), .int .i64 1, .int .i64 c, .int .u64 0, .int .u64 0] w fun e w' => e = .returned (.tuple #[.int .u64 (s.at c), .bool (s.has c)]) ∧ Only [r, rc] w w' ∧ REnvAt w' r rc (s.put 1 c (s.at c)) now := by
  by_cases hc : 0 ≤ c ∧ c < s.cells.length
  · rw [put_in hc, at_in hc, show s.has c = true from decide_eq_true hc]
    exact refAcc1_in w _ r 11 rc cfg0 _ s c c.toNat (by omega) _ 0 0 h cfg0_len (by omega) rfl hn
  · rw [put_out hc, at_out hc, show s.has c = false from decide_eq_false hc]
    exact (refAcc_out w _ r 11 rc cfg0 _ s 1 c 0 0 h cfg0_len (by omega)).mono fun e w' ⟨a, b⟩ => ⟨a, by rw [← b]; exact Only.refl _ _, by rw [← b]; exact h⟩

theorem racc2_any (w : World) (r rc : Nat) (s : MS) (now c v : Int) (h : REnvAt w r rc s now) (hn : s.count ≤ 4000000000000000000) :
    Calls Tryz.prog 86 #[.pointer (some ⟨r, 11, none⟩), .int .i64 2, .int .i64 c, .int .u64 v, .int .u64 0] w fun e w' => e = .returned (.tuple #[.int .u64 (s.at c), .bool (s.has c)]) ∧ Only [r, rc] w w' ∧ REnvAt w' r rc (s.put 2 c v) now := by
  by_cases hc : 0 ≤ c ∧ c < s.cells.length
  · rw [put_in hc, at_in hc, show s.has c = true from decide_eq_true hc]
    exact refAcc2_in w _ r 11 rc cfg0 _ s c c.toNat (by omega) _ v 0 h cfg0_len (by omega) rfl hn
  · rw [put_out hc, at_out hc, show s.has c = false from decide_eq_false hc]
    exact (refAcc_out w _ r 11 rc cfg0 _ s 2 c v 0 h cfg0_len (by omega)).mono fun e w' ⟨a, b⟩ => ⟨a, by rw [← b]; exact Only.refl _ _, by rw [← b]; exact h⟩

theorem racc3_any (w : World) (r rc : Nat) (s : MS) (now c v u : Int) (h : REnvAt w r rc s now) (hn : s.count ≤ 4000000000000000000) :
    Calls Tryz.prog 86 #[.pointer (some ⟨r, 11, none⟩), .int .i64 3, .int .i64 c, .int .u64 v, .int .u64 u] w fun e w' => e = .returned (.tuple #[.int .u64 (s.at c), .bool (s.has c && s.at c == v)]) ∧ Only [r, rc] w w' ∧ REnvAt w' r rc (s.put 3 c (casB (s.at c) v u)) now := by
  by_cases hc : 0 ≤ c ∧ c < s.cells.length
  · rw [put_in hc, at_in hc, show s.has c = true from decide_eq_true hc, Bool.true_and]
    exact refAcc3_in w _ r 11 rc cfg0 _ s c c.toNat (by omega) _ v u h cfg0_len (by omega) rfl hn
  · rw [put_out hc, at_out hc, show s.has c = false from decide_eq_false hc, Bool.false_and]
    exact (refAcc_out w _ r 11 rc cfg0 _ s 3 c v u h cfg0_len (by omega)).mono fun e w' ⟨a, b⟩ => ⟨a, by rw [← b]; exact Only.refl _ _, by rw [← b]; exact h⟩

theorem racc4_any (w : World) (r rc : Nat) (s : MS) (now c v : Int) (h : REnvAt w r rc s now) (hn : s.count ≤ 4000000000000000000) :
    Calls Tryz.prog 86 #[.pointer (some ⟨r, 11, none⟩), .int .i64 4, .int .i64 c, .int .u64 v, .int .u64 0] w fun e w' => e = .returned (.tuple #[.int .u64 (s.at c), .bool (s.has c)]) ∧ Only [r, rc] w w' ∧ REnvAt w' r rc (s.put 4 c (orB (s.at c) v)) now := by
  by_cases hc : 0 ≤ c ∧ c < s.cells.length
  · rw [put_in hc, at_in hc, show s.has c = true from decide_eq_true hc]
    exact refAcc4_in w _ r 11 rc cfg0 _ s c c.toNat (by omega) _ v 0 h cfg0_len (by omega) rfl hn
  · rw [put_out hc, at_out hc, show s.has c = false from decide_eq_false hc]
    exact (refAcc_out w _ r 11 rc cfg0 _ s 4 c v 0 h cfg0_len (by omega)).mono fun e w' ⟨a, b⟩ => ⟨a, by rw [← b]; exact Only.refl _ _, by rw [← b]; exact h⟩

theorem racc5_any (w : World) (r rc : Nat) (s : MS) (now c v : Int) (h : REnvAt w r rc s now) (hn : s.count ≤ 4000000000000000000) :
    Calls Tryz.prog 86 #[.pointer (some ⟨r, 11, none⟩), .int .i64 5, .int .i64 c, .int .u64 v, .int .u64 0] w fun e w' => e = .returned (.tuple #[.int .u64 (s.at c), .bool (s.has c)]) ∧ Only [r, rc] w w' ∧ REnvAt w' r rc (s.put 5 c (andB (s.at c) v)) now := by
  by_cases hc : 0 ≤ c ∧ c < s.cells.length
  · rw [put_in hc, at_in hc, show s.has c = true from decide_eq_true hc]
    exact refAcc5_in w _ r 11 rc cfg0 _ s c c.toNat (by omega) _ v 0 h cfg0_len (by omega) rfl hn
  · rw [put_out hc, at_out hc, show s.has c = false from decide_eq_false hc]
    exact (refAcc_out w _ r 11 rc cfg0 _ s 5 c v 0 h cfg0_len (by omega)).mono fun e w' ⟨a, b⟩ => ⟨a, by rw [← b]; exact Only.refl _ _, by rw [← b]; exact h⟩

theorem rload_any (w : World) (r rc : Nat) (s : MS) (now c : Int) (h : REnvAt w r rc s now) (hn : s.count ≤ 4000000000000000000) :
    Calls Tryz.prog 58 #[.pointer (some ⟨r, 0, none⟩), .int .i64 c] w fun e w' => e = .returned (.int .u64 (s.at c)) ∧ Only [r, rc] w w' ∧ REnvAt w' r rc (s.put 1 c (s.at c)) now := by
  have A := Lib.hid (racc1_any w r rc s now c h hn)
  clear h hn
  go_enter Tryz.func58, Tryz.ntmps58
  go_wp2_with fail
  refine A.out.mono ?_; rintro e w1 ⟨rfl, o1, h1⟩
  have P := Lib.hid (And.intro o1 h1)
  clear o1 h1
  go_wp2_with fail
  go_ret
  exact ⟨rfl, P.out⟩

theorem rstore_any (w : World) (r rc : Nat) (s : MS) (now c v : Int) (h : REnvAt w r rc s now) (hn : s.count ≤ 4000000000000000000) :
    Calls Tryz.prog 61 #[.pointer (some ⟨r, 0, none⟩), .int .i64 c, .int .u64 v] w fun e w' => e = .returned (.tuple #[]) ∧ Only [r, rc] w w' ∧ REnvAt w' r rc (s.put 2 c v) now := by
  have A := Lib.hid (racc2_any w r rc s now c v h hn)
  clear h hn
  go_enter Tryz.func61, Tryz.ntmps61
  go_wp2_with fail
  refine A.out.mono ?_; rintro e w1 ⟨rfl, o1, h1⟩
  have P := Lib.hid (And.intro o1 h1)
  clear o1 h1
  go_wp2_with fail
  go_end0
  exact ⟨rfl, P.out⟩

theorem rcas_any (w : World) (r rc : Nat) (s : MS) (now c v u : Int) (h : REnvAt w r rc s now) (hn : s.count ≤ 4000000000000000000) :
    Calls Tryz.prog 60 #[.pointer (some ⟨r, 0, none⟩), .int .i64 c, .int .u64 v, .int .u64 u] w fun e w' => e = .returned (.bool (s.has c && s.at c == v)) ∧ Only [r, rc] w w' ∧ REnvAt w' r rc (s.put 3 c (casB (s.at c) v u)) now := by
  have A := Lib.hid (racc3_any w r rc s now c v u h hn)
  obtain ⟨B, hB⟩ : ∃ B, B = (s.has c && s.at c == v) := ⟨_, rfl⟩
  rw [← hB] at A ⊢
  clear h hn hB
  go_enter Tryz.func60, Tryz.ntmps60
  go_wp2_with fail
  refine A.out.mono ?_; rintro e w1 ⟨rfl, o1, h1⟩
  have P := Lib.hid (And.intro o1 h1)
  clear o1 h1
  go_wp2_with fail
  go_ret
  exact ⟨rfl, P.out⟩

theorem ror_any (w : World) (r rc : Nat) (s : MS) (now c v : Int) (h : REnvAt w r rc s now) (hn : s.count ≤ 4000000000000000000) :
    Calls Tryz.prog 54 #[.pointer (some ⟨r, 0, none⟩), .int .i64 c, .int .u64 v] w fun e w' => e = .returned (.int .u64 (s.at c)) ∧ Only [r, rc] w w' ∧ REnvAt w' r rc (s.put 4 c (orB (s.at c) v)) now := by
  have A := Lib.hid (racc4_any w r rc s now c v h hn)
  clear h hn
  go_enter Tryz.func54, Tryz.ntmps54
  go_wp2_with fail
  refine A.out.mono ?_; rintro e w1 ⟨rfl, o1, h1⟩
  have P := Lib.hid (And.intro o1 h1)
  clear o1 h1
  go_wp2_with fail
  go_ret
  exact ⟨rfl, P.out⟩

theorem rand_any (w : World) (r rc : Nat) (s : MS) (now c v : Int) (h : REnvAt w r rc s now) (hn : s.count ≤ 4000000000000000000) :
    Calls Tryz.prog 88 #[.pointer (some ⟨r, 0, none⟩), .int .i64 c, .int .u64 v] w fun e w' => e = .returned (.int .u64 (s.at c)) ∧ Only [r, rc] w w' ∧ REnvAt w' r rc (s.put 5 c (andB (s.at c) v)) now := by
  have A := Lib.hid (racc5_any w r rc s now c v h hn)
  clear h hn
  go_enter Tryz.func88, Tryz.ntmps88
  go_wp2_with fail
  refine A.out.mono ?_; rintro e w1 ⟨rfl, o1, h1⟩
  have P := Lib.hid (And.intro o1 h1)
  clear o1 h1
  go_wp2_with fail
  go_ret
  exact ⟨rfl, P.out⟩

/-- A frame that runs no other: the machine k. -/
def frmC (k : K) : List Value := [.int .i64 k.kind, .int .i64 k.line, .int .i64 k.q.top, .int .i64 k.q.bot, .int .i64 k.q.ring, .int .i64 k.q.cap, .int .i64 k.a, .int .i64 k.b, .int .i64 0, .int .i64 0, .int .i64 0, .int .i64 0, .int .i64 0, .int .u64 k.u, .int .u64 k.v, .int .u64 k.w, .int .u64 0, .slice none 0 0]
def frmO (k : K) : Obj := .cells (frmC k).toArray 115 (0, 0)

/-- What a line of the reference comes to: done or not, code, value; the frame, the environment. -/
def RLeaf (fb r rc : Nat) (now : Int) (k : K) (s : MS) (w : World) (e : Ending) (w' : World) : Prop :=
  e = .returned (.agg #[.bool (stepK k s).1.over, .int .i64 (stepK k s).1.code, .int .i64 (stepK k s).1.val]) ∧ Only [fb, r, rc] w w' ∧ w'.heap[fb]? = some (frmO (stepK k s).1) ∧ REnvAt w' r rc (stepK k s).2 now

theorem RLeaf.mk {fb r rc : Nat} {now : Int} {k k' : K} {s s' : MS} {w w' : World} {b : Bool} {c v : Int} (h : stepK k s = (k', s')) (hb : k'.over = b) (hc : k'.code = c) (hv : k'.val = v) (h1 : Only [fb, r, rc] w w') (h2 : w'.heap[fb]? = some (frmO k')) (h3 : REnvAt w' r rc s' now) :
    RLeaf fb r rc now k s w (.returned (.agg #[.bool b, .int .i64 c, .int .i64 v])) w' := by
  unfold RLeaf
  rw [h, hb, hc, hv]
  exact ⟨rfl, h1, h2, h3⟩

/-- Where the frame lies. -/
structure RAp (fb r rc : Nat) : Prop where
  fr : fb ≠ r
  fc : fb ≠ rc

theorem end8_any (w : World) (c v : Int) : Calls Tryz.prog 56 #[.int .i64 c, .int .i64 v] w fun e w' => e = .returned (.agg #[.bool true, .int .i64 c, .int .i64 v]) ∧ Only [] w w' := by
  go_enter Tryz.func56, Tryz.ntmps56
  go_wp2
  exact bodyPost_ret (v := .agg #[.bool true, .int .i64 c, .int .i64 v]) (by simp [results, Tryz.results56, go_sem]) rfl ⟨rfl, (Only.refl _ _).alloc _⟩
end Go.Proofs.YtfhkhknnoepfeaaGreat

/- The reference's lines: what stands at a line's begin and at its end. -/

namespace Go.Proofs.YtfhkhknnoepfeaaGreat
open Go.RowKit
set_option linter.unusedVariables false

def resO : Obj := .cells #[.bool false, .int .i64 0, .int .i64 0] 136 (0, 0)

/-- What stands at a line's begin behind the making of the result's place tb. -/
structure RIn (w w0 : World) (tb fb r rc : Nat) (now : Int) (k : K) (s : MS) : Prop where
  o : Only [] w w0
  t : w0.heap[tb]? = some resO
  f : w0.heap[fb]? = some (frmO k)
  e : REnvAt w0 r rc s now
  n1 : fb ≠ tb
  n2 : r ≠ tb
  n3 : rc ≠ tb
  n4 : w.heap.size ≤ tb

theorem RIn.new {w : World} {fb r rc : Nat} {now : Int} {k : K} {s : MS} (hF : w.heap[fb]? = some (frmO k)) (hR : REnvAt w r rc s now) (hrc : rc < w.heap.size) : RIn w (w.alloc resO) w.heap.size fb r rc now k s := by
  have o : Only [] w (w.alloc resO) := (Only.refl _ _).alloc _
  exact ⟨o, blk_alloc_new _ _, o.keep hF (by simp), hR.keep0 o, by have := lt_of_blk hF; omega, by have := hR.lt; omega, by omega, Nat.le_refl _⟩

/-- Behind an access of the environment. -/
theorem RIn.acc {w w0 w1 : World} {tb fb r rc : Nat} {now : Int} {k : K} {s s' : MS} (h : RIn w w0 tb fb r rc now k s) (hA : RAp fb r rc) (o : Only [r, rc] w0 w1) (e : REnvAt w1 r rc s' now) :
    w1.heap[tb]? = some resO ∧ w1.heap[fb]? = some (frmO k) ∧ Only [fb, r, rc] w w1 := by
  have n1 := h.n2
  have n2 := h.n3
  have n3 := hA.fr
  have n4 := hA.fc
  exact ⟨o.keep h.t (by simp; omega), o.keep h.f (by simp; omega), (h.o.mono (T := [fb, r, rc]) (by simp)).trans o (by simp)⟩

/-- A line's end: the result is laid in its place. -/
theorem RLeaf.fin {w w2 : World} {tb fb r rc : Nat} {now : Int} {k k' : K} {s s' : MS} {b : Bool} {c v : Int} (h : stepK k s = (k', s')) (hb : k'.over = b) (hc : k'.code = c) (hv : k'.val = v) (T2 : w2.heap[tb]? = some resO) (F2 : w2.heap[fb]? = some (frmO k')) (E2 : REnvAt w2 r rc s' now) (O2 : Only [fb, r, rc] w w2)
    (n1 : fb ≠ tb) (n2 : r ≠ tb) (n3 : rc ≠ tb) (n4 : w.heap.size ≤ tb) :
    RLeaf fb r rc now k s w (.returned (.agg #[.bool b, .int .i64 c, .int .i64 v])) (((w2.setCell ⟨tb, 0, none⟩ (.bool b)).setCell ⟨tb, 1, none⟩ (.int .i64 c)).setCell ⟨tb, 2, none⟩ (.int .i64 v)) := by
  have o : Only [tb] w2 (((w2.setCell ⟨tb, 0, none⟩ (.bool b)).setCell ⟨tb, 1, none⟩ (.int .i64 c)).setCell ⟨tb, 2, none⟩ (.int .i64 v)) := (((Only.refl _ _).setCell (by simp) _).setCell (by simp) _).setCell (by simp) _
  exact RLeaf.mk h hb hc hv (O2.trans o (by simp; omega)) (o.keep F2 (by simp; omega)) (E2.keep o (by simp; omega) (by simp; omega))

theorem frm_set {w : World} {fb i : Nat} {l : List Value} {T : TypeId} {v : Value} (h : w.heap[fb]? = some (.cells l.toArray T (0, 0))) : (w.setCell ⟨fb, i, none⟩ v).heap[fb]? = some (.cells (l.set i v).toArray T (0, 0)) := by
  rw [blk_setCell h, List.setIfInBounds_toArray]

theorem RIn.drew {w w0 : World} {tb fb r rc : Nat} {now : Int} {k : K} {s : MS} (h : RIn w w0 tb fb r rc now k s) : RIn w w0.drew tb fb r rc now k s :=
  ⟨h.o.drew, h.t, h.f, h.e.keep0 (Only.refl _ _).drew, h.n1, h.n2, h.n3, h.n4⟩

theorem RLeaf.drewN {fb r rc : Nat} {now : Int} {k : K} {s : MS} {w w' : World} {e : Ending} (h : RLeaf fb r rc now k s w e w') (n : Nat) : RLeaf fb r rc now k s w e (w'.drewN n) :=
  ⟨h.1, h.2.1.drewN n, h.2.2.1, h.2.2.2.keep0 ((Only.refl _ _).drewN n)⟩
end Go.Proofs.YtfhkhknnoepfeaaGreat
