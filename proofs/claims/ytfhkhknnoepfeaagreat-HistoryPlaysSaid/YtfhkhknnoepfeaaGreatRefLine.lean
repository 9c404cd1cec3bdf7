/- The reference's lines: what stands at a line's begin and at its end. -/
import Derived.Test.YtfhkhknnoepfeaaGreatRefEnv

import Derived.Deep.RegionHeld3
import Derived.StillTailTactics
import Derived.Deep.QuietTactic
import Derived.BigQuiet
namespace Go.Proofs.YtfhkhknnoepfeaaGreat
open Go.RowKit
set_option linter.unusedVariables false

def resO : Obj := .cells #[.bool false, .int .i64 0, .int .i64 0] 136 (0, 0)

/-- What stands at a line's begin behind the making of the result's place tb. -/
structure RIn (w w0 : World) (tb fb r rc : Nat) (now : Int) (k : K) (s : MS) : Prop where
  o : Only [] w w0
  t : w0.heap[tb]? = some resO
  f : w0.heap[fb]? = some (frmO k)
  e : REnvAt w0 r rc s now
  n1 : fb ≠ tb
  n2 : r ≠ tb
  n3 : rc ≠ tb
  n4 : w.heap.size ≤ tb

theorem RIn.new {w : World} {fb r rc : Nat} {now : Int} {k : K} {s : MS} (hF : w.heap[fb]? = some (frmO k)) (hR : REnvAt w r rc s now) (hrc : rc < w.heap.size) : RIn w (w.alloc resO) w.heap.size fb r rc now k s := by
  have o : Only [] w (w.alloc resO) := (Only.refl _ _).alloc _
  exact ⟨o, blk_alloc_new _ _, o.keep hF (by simp), hR.keep0 o, by have := lt_of_blk hF; omega, by have := hR.lt; omega, by omega, Nat.le_refl _⟩

/-- Behind an access of the environment. -/
theorem RIn.acc {w w0 w1 : World} {tb fb r rc : Nat} {now : Int} {k : K} {s s' : MS} (h : RIn w w0 tb fb r rc now k s) (hA : RAp fb r rc) (o : Only [r, rc] w0 w1) (e : REnvAt w1 r rc s' now) :
    w1.heap[tb]? = some resO ∧ w1.heap[fb]? = some (frmO k) ∧ Only [fb, r, rc] w w1 := by
  have n1 := h.n2
  have n2 := h.n3
  have n3 := hA.fr
  have n4 := hA.fc
  exact ⟨o.keep h.t (by simp; omega), o.keep h.f (by simp; omega), (h.o.mono (T := [fb, r, rc]) (by simp)).trans o (by simp)⟩

/-- A line's end: the result is laid in its place. -/
theorem RLeaf.fin {w w2 : World} {tb fb r rc : Nat} {now : Int} {k k' : K} {s s' : MS} {b : Bool} {c v : Int} (h : stepK k s = (k', s')) (hb : k'.over = b) (hc : k'.code = c) (hv : k'.val = v) (T2 : w2.heap[tb]? = some resO) (F2 : w2.heap[fb]? = some (frmO k')) (E2 : REnvAt w2 r rc s' now) (O2 : Only [fb, r, rc] w w2)
    (n1 : fb ≠ tb) (n2 : r ≠ tb) (n3 : rc ≠ tb) (n4 : w.heap.size ≤ tb) :
    RLeaf fb r rc now k s w (.returned (.agg #[.bool b, .int .i64 c, .int .i64 v])) (((w2.setCell ⟨tb, 0, none⟩ (.bool b)).setCell ⟨tb, 1, none⟩ (.int .i64 c)).setCell ⟨tb, 2, none⟩ (.int .i64 v)) := by
  have o : Only [tb] w2 (((w2.setCell ⟨tb, 0, none⟩ (.bool b)).setCell ⟨tb, 1, none⟩ (.int .i64 c)).setCell ⟨tb, 2, none⟩ (.int .i64 v)) := (((Only.refl _ _).setCell (by simp) _).setCell (by simp) _).setCell (by simp) _
  exact RLeaf.mk h hb hc hv (O2.trans o (by simp; omega)) (o.keep F2 (by simp; omega)) (E2.keep o (by simp; omega) (by simp; omega))

theorem frm_set {w : World} {fb i : Nat} {l : List Value} {T : TypeId} {v : Value} (h : w.heap[fb]? = some (.cells l.toArray T (0, 0))) : (w.setCell ⟨fb, i, none⟩ v).heap[fb]? = some (.cells (l.set i v).toArray T (0, 0)) := by
  rw [blk_setCell h, List.setIfInBounds_toArray]

theorem RIn.drew {w w0 : World} {tb fb r rc : Nat} {now : Int} {k : K} {s : MS} (h : RIn w w0 tb fb r rc now k s) : RIn w w0.drew tb fb r rc now k s :=
  ⟨h.o.drew, h.t, h.f, h.e.keep0 (Only.refl _ _).drew, h.n1, h.n2, h.n3, h.n4⟩

theorem RLeaf.drewN {fb r rc : Nat} {now : Int} {k : K} {s : MS} {w w' : World} {e : Ending} (h : RLeaf fb r rc now k s w e w') (n : Nat) : RLeaf fb r rc now k s w e (w'.drewN n) :=
  ⟨h.1, h.2.1.drewN n, h.2.2.1, h.2.2.2.keep0 ((Only.refl _ _).drewN n)⟩
end Go.Proofs.YtfhkhknnoepfeaaGreat
