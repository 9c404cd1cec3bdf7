/- Script entries in plain Lean: decoding, places, rounds; the program's way and the reference's. No program in sight. -/
import Derived.WalkKit
namespace Go.Proofs.Ytfhmphbfngdkeaa

/-- An entry: its kind and its value. -/
abbrev E := Int × Int

def flat : List E → List Value
  | [] => []
  | e :: l => .int .i64 e.1 :: .int .i64 e.2 :: flat l

theorem flat_length (l : List E) : (flat l).length = 2 * l.length := by
  induction l with
  | nil => rfl
  | cons e l ih => simp [flat, ih]; omega
theorem flat_append (a b : List E) : flat (a ++ b) = flat a ++ flat b := by
  induction a with
  | nil => rfl
  | cons e l ih => simp [flat, ih]
theorem flat_at0 (l : List E) (i : Nat) (h : i < l.length) : (flat l)[2 * i]? = some (.int .i64 (l.getD i (0, 0)).1) := by
  induction l generalizing i with
  | nil => simp at h
  | cons e l ih =>
    cases i with
    | zero => rfl
    | succ i => rw [show 2 * (i + 1) = 2 * i + 1 + 1 by omega]; simpa [flat] using ih i (by simpa using h)
theorem flat_at1 (l : List E) (i : Nat) (h : i < l.length) : (flat l)[2 * i + 1]? = some (.int .i64 (l.getD i (0, 0)).2) := by
  induction l generalizing i with
  | nil => simp at h
  | cons e l ih =>
    cases i with
    | zero => rfl
    | succ i => rw [show 2 * (i + 1) + 1 = 2 * i + 1 + 1 + 1 by omega]; simpa [flat] using ih i (by simpa using h)

/-- The entry of two bytes. -/
def ent (a b : Int) : E := (a % 4, if a % 4 = 1 ∨ a % 4 = 3 then 0 else b)
def decL : List Int → List E
  | a :: b :: l => ent a b :: decL l
  | _ => []
theorem decL_length : ∀ (n : Nat) (l : List Int), l.length ≤ n → (decL l).length = l.length / 2
  | 0, [], _ => rfl
  | n + 1, [], _ => rfl
  | n + 1, [_], _ => by simp [decL]
  | n + 1, a :: b :: l, h => by
    simp only [decL, List.length_cons]
    rw [decL_length n l (by simp at h; omega)]
    omega
  | 0, _ :: _, h => by simp at h
theorem decL_len (l : List Int) : (decL l).length = l.length / 2 := decL_length _ l (Nat.le_refl _)
theorem decL_step : ∀ (k : Nat) (l : List Int), 2 * k + 1 < l.length → decL (l.take (2 * (k + 1))) = decL (l.take (2 * k)) ++ [ent (l.getD (2 * k) 0) (l.getD (2 * k + 1) 0)]
  | 0, a :: b :: l, _ => rfl
  | 0, [_], h => by simp at h
  | _, [], h => by simp at h
  | k + 1, [_], h => by simp at h
  | k + 1, a :: b :: l, h => by
    have ih := decL_step k l (by simp at h; omega)
    rw [show 2 * (k + 1 + 1) = 2 * (k + 1) + 1 + 1 by omega, show 2 * (k + 1) = 2 * k + 1 + 1 by omega]
    simp only [List.take_succ_cons, decL, List.cons_append]
    rw [show 2 * k + 1 + 1 = 2 * (k + 1) by omega, ih]
    have e : 2 * (k + 1) = 2 * k + 1 + 1 := by omega
    simp [List.getD, e]
theorem decL_take (l : List Int) (k : Nat) (h : l.length ≤ 2 * k + 1) (h2 : 2 * k ≤ l.length) : decL (l.take (2 * k)) = decL l := by
  by_cases e : l.length = 2 * k
  · rw [List.take_of_length_le (by omega)]
  · have : ∀ (k : Nat) (l : List Int), l.length = 2 * k + 1 → decL (l.take (2 * k)) = decL l := by
      intro k
      induction k with
      | zero =>
        intro l h
        match l, h with
        | [_], _ => rfl
      | succ k ih =>
        intro l h
        match l, h with
        | a :: b :: l, h =>
          rw [show 2 * (k + 1) = 2 * k + 1 + 1 by omega]
          simp only [List.take_succ_cons, decL]
          rw [ih l (by simp at h; omega)]
    exact this k l (by omega)

/-- How many of the numbers below k are in a set. -/
def cntF (f : Nat → Bool) : Nat → Nat
  | 0 => 0
  | k + 1 => cntF f k + (if f k then 1 else 0)
theorem cntF_succ (f : Nat → Bool) (k : Nat) : cntF f (k + 1) = cntF f k + (if f k then 1 else 0) := rfl
theorem cntF_le (f : Nat → Bool) (k : Nat) : cntF f k ≤ k := by
  induction k with
  | zero => exact Nat.le_refl _
  | succ k ih => rw [cntF_succ]; split <;> omega
theorem cntF_all (f : Nat → Bool) (k : Nat) : cntF f k = k ↔ ∀ i, i < k → f i = true := by
  induction k with
  | zero => simp [cntF]
  | succ k ih =>
    have h1 := cntF_le f k
    rw [cntF_succ]
    constructor
    · intro h i hi
      have hk : f k = true := by
        cases hf : f k with
        | true => rfl
        | false => rw [hf] at h; simp at h; omega
      rw [hk] at h
      simp at h
      by_cases e : i = k
      · rw [e]; exact hk
      · exact ih.1 (by omega) i (by omega)
    · intro h
      rw [h k (by omega), ih.2 (fun i hi => h i (by omega))]
      rfl
theorem cntF_none (k : Nat) : cntF (fun _ => false) k = 0 := by
  induction k with
  | zero => rfl
  | succ k ih => rw [cntF_succ, ih]; rfl
theorem cntF_congr {f g : Nat → Bool} {k : Nat} (h : ∀ i, i < k → f i = g i) : cntF f k = cntF g k := by
  induction k with
  | zero => rfl
  | succ k ih => rw [cntF_succ, cntF_succ, ih (fun i hi => h i (by omega)), h k (by omega)]
/-- One number more. -/
def addF (f : Nat → Bool) (p : Nat) : Nat → Bool := fun q => q == p || f q
theorem cntF_add (f : Nat → Bool) (p k : Nat) (hp : p < k) : cntF (addF f p) k = cntF f k + (if f p then 0 else 1) := by
  induction k with
  | zero => omega
  | succ k ih =>
    rw [cntF_succ, cntF_succ]
    by_cases e : p = k
    · subst e
      rw [cntF_congr (f := addF f p) (g := f) (fun i hi => by unfold addF; simp; omega)]
      have : addF f p p = true := by simp [addF]
      rw [this]
      cases f p <;> simp
    · rw [ih (by omega)]
      have : addF f p k = f k := by unfold addF; have : (k == p) = false := by simp; omega
                                    simp [this]
      rw [this]
      omega

/-- The machine that an entry picks, and the place where it counts. -/
def machI (e : E) (m : Int) : Int := if e.1 = 0 ∧ 1 ≤ m then e.2 % m else -1
def placeI (e : E) (m : Int) : Int := if e.1 = 1 then m else machI e m
theorem machI_bd (e : E) (m : Int) : -1 ≤ machI e m ∧ (1 ≤ m → machI e m < m) := by
  unfold machI
  split
  · rename_i h
    have := Int.emod_nonneg e.2 (show m ≠ 0 by omega)
    have := Int.emod_lt_of_pos e.2 (show 0 < m by omega)
    omega
  · omega
theorem placeI_bd (e : E) (m : Int) (hm : 1 ≤ m) : -1 ≤ placeI e m ∧ placeI e m ≤ m := by
  unfold placeI
  have := machI_bd e m
  split <;> omega

/-- The program's rounds: the places that were seen, and the rounds. -/
def rstep (m : Nat) (s : (Nat → Bool) × Nat) (e : E) : (Nat → Bool) × Nat :=
  if placeI e m < 0 then s
  else if cntF (addF s.1 (placeI e m).toNat) (m + 1) ≤ m then (addF s.1 (placeI e m).toNat, s.2)
  else (fun _ => false, s.2 + 1)
def rounds (m : Nat) (l : List E) : Nat := (l.foldl (rstep m) (fun _ => false, 0)).2
end Go.Proofs.Ytfhmphbfngdkeaa
