/- Binary heaps in plain Lean: what the program's and the reference's Push and Pop do to a list, and that they agree. No program in sight. -/
import Derived.WalkKit
namespace Go.Proofs.Ytenamlckhcfflaa

/-- The program's way up: a hole at j; the key k goes where it belongs. -/
def upP (k : Int) : Nat → Nat → List Int → List Int
  | 0, j, l => l.set j k
  | f + 1, j, l => if 0 < j ∧ k < l.getD ((j - 1) / 2) 0 then upP k f ((j - 1) / 2) (l.set j (l.getD ((j - 1) / 2) 0)) else l.set j k

/-- The reference's way up: the key changes places. -/
def upR (k : Int) : Nat → Nat → List Int → List Int
  | 0, _, l => l
  | f + 1, j, l => if 0 < j ∧ k < l.getD ((j - 1) / 2) 0 then upR k f ((j - 1) / 2) ((l.set j (l.getD ((j - 1) / 2) 0)).set ((j - 1) / 2) k) else l

theorem getD_set_ne {l : List Int} {i j : Nat} (h : i ≠ j) (x : Int) : (l.set i x).getD j 0 = l.getD j 0 := by
  simp [List.getD, h]
theorem getD_set_eq {l : List Int} {i : Nat} (h : i < l.length) (x : Int) : (l.set i x).getD i 0 = x := by
  simp [List.getD, h]

theorem upR_eq (k : Int) : ∀ (f j : Nat) (l : List Int), upR k f j (l.set j k) = upP k f j l := by
  intro f
  induction f with
  | zero => intro j l; rfl
  | succ f ih =>
    intro j l
    unfold upR upP
    by_cases hj : 0 < j
    · have hne : j ≠ (j - 1) / 2 := by omega
      rw [getD_set_ne hne]
      split
      · rw [← ih, List.set_set]
      · rfl
    · rw [if_neg (fun h => hj h.1), if_neg (fun h => hj h.1)]

def pushL (h : List Int) (k : Int) : List Int := upP k h.length h.length (h ++ [k])

theorem upP_length (k : Int) : ∀ (f j : Nat) (l : List Int), (upP k f j l).length = l.length := by
  intro f
  induction f with
  | zero => intro j l; simp [upP]
  | succ f ih => intro j l; unfold upP; split <;> simp [ih]

theorem pushL_length (h : List Int) (k : Int) : (pushL h k).length = h.length + 1 := by simp [pushL, upP_length]

theorem upR_start (h : List Int) (k : Int) : upR k h.length h.length (h ++ [k]) = pushL h k := by
  have : (h ++ [k]).set h.length k = h ++ [k] := by
    rw [List.set_append_right _ _ (Nat.le_refl _)]
    simp
  unfold pushL
  rw [← upR_eq, this]

/-- The lesser child of i in a list, or the list's length and more if it has none. -/
def lesserL (l : List Int) (i : Nat) : Nat := if 2 * i + 1 + 1 < l.length ∧ l.getD (2 * i + 1 + 1) 0 < l.getD (2 * i + 1) 0 then 2 * i + 1 + 1 else 2 * i + 1

/-- The program's way down: a hole at i, the last key y goes where it belongs. -/
def downP (y : Int) : Nat → Nat → List Int → List Int
  | 0, i, l => l.set i y
  | f + 1, i, l => if 2 * i + 1 < l.length ∧ l.getD (lesserL l i) 0 < y then downP y f (lesserL l i) (l.set i (l.getD (lesserL l i) 0)) else l.set i y

/-- The reference's way down. -/
def downR (y : Int) : Nat → Nat → List Int → List Int
  | 0, _, l => l
  | f + 1, i, l => if 2 * i + 1 < l.length ∧ l.getD (lesserL l i) 0 < y then downR y f (lesserL l i) ((l.set i (l.getD (lesserL l i) 0)).set (lesserL l i) y) else l

theorem lesserL_gt (l : List Int) (i : Nat) : i < lesserL l i := by unfold lesserL; split <;> omega
theorem lesserL_lt {l : List Int} {i : Nat} (h : 2 * i + 1 < l.length) : lesserL l i < l.length := by unfold lesserL; split <;> omega
theorem lesserL_set (l : List Int) (i : Nat) (y : Int) : lesserL (l.set i y) i = lesserL l i := by
  unfold lesserL
  rw [getD_set_ne (by omega), getD_set_ne (by omega), List.length_set]

theorem downR_eq (y : Int) : ∀ (f i : Nat) (l : List Int), downR y f i (l.set i y) = downP y f i l := by
  intro f
  induction f with
  | zero => intro i l; rfl
  | succ f ih =>
    intro i l
    unfold downR downP
    rw [lesserL_set, List.length_set, getD_set_ne (by have := lesserL_gt l i; omega)]
    split
    · rw [← ih, List.set_set]
    · rfl

theorem downP_length (y : Int) : ∀ (f i : Nat) (l : List Int), (downP y f i l).length = l.length := by
  intro f
  induction f with
  | zero => intro i l; simp [downP]
  | succ f ih => intro i l; unfold downP; split <;> simp [ih]

/-- What is left behind a pop. -/
def popL (h : List Int) : List Int := if h.length ≤ 1 then [] else downP (h.getD (h.length - 1) 0) h.length 0 (h.take (h.length - 1))

theorem popL_length (h : List Int) : (popL h).length = h.length - 1 := by
  unfold popL
  split
  · simp; omega
  · rw [downP_length]; simp

def fewL (h : List Int) : List Int := h.map (· % 8)
end Go.Proofs.Ytenamlckhcfflaa
