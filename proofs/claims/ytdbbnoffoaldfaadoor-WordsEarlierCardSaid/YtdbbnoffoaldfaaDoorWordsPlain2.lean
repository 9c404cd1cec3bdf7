/- The least, the greatest and the n-th bit of a word, in plain Lean. No program in sight. -/
import Derived.Test.YtdbbnoffoaldfaaDoorWordsPlain
namespace Go.Proofs.YtdbbnoffoaldfaaDoor
open Go

theorem low_form (x : Nat) (h0 : x ≠ 0) (h : x < 18446744073709551616) : ∃ c m, c < 64 ∧ x = 2 ^ c * (2 * m + 1) ∧ Lib.ctz 64 x = c := by
  obtain ⟨m, h1, h2⟩ := Lib.ctzFrom_spec 64 x (by omega) h
  exact ⟨Lib.ctzFrom 64 x, m, h2, h1, by unfold Lib.ctz; rw [if_neg h0]⟩

theorem form_bit (c m i : Nat) : (2 ^ c * (2 * m + 1)).testBit i = (decide (c ≤ i) && (2 * m + 1).testBit (i - c)) := by
  rw [Nat.testBit_two_pow_mul]

theorem form_pred (c m i : Nat) : ((2 ^ c * (2 * m + 1)) &&& (2 ^ c * (2 * m + 1) - 1)).testBit i = ((2 ^ c * (2 * m + 1)).testBit i && decide (i ≠ c)) := by
  have hp : 0 < 2 ^ c := Nat.two_pow_pos c
  have e : 2 ^ c * (2 * m + 1) - 1 = 2 ^ c * (2 * m) + (2 ^ c - 1) := by
    rw [Nat.mul_add, Nat.mul_one]; omega
  rw [Nat.testBit_and, form_bit, e, Nat.testBit_two_pow_mul_add _ (by omega)]
  by_cases hi : i < c
  · simp [Nat.not_le.2 hi]
  · rw [if_neg hi]
    have hci : c ≤ i := by omega
    by_cases hic : i = c
    · subst hic
      simp
    · obtain ⟨j, rfl⟩ : ∃ j, i = c + 1 + j := ⟨i - c - 1, by omega⟩
      have e2 : c + 1 + j - c = j + 1 := by omega
      have e3 : (2 * m + 1).testBit (j + 1) = (2 * m).testBit (j + 1) := by
        rw [Nat.testBit_succ, Nat.testBit_succ]
        congr 1
        omega
      rw [e2, e3]
      simp [hci, hic]

/-- The bit of a word that has n bits below it. -/
def IsNth (x n k : Nat) : Prop := k < 64 ∧ x.testBit k = true ∧ cntTo x k = n

theorem isNth_unique {x n k k' : Nat} (h : IsNth x n k) (h' : IsNth x n k') : k = k' := by
  have up : ∀ a b, a < b → x.testBit a = true → cntTo x a < cntTo x b := fun a b hab ha => by
    have h1 : cntTo x (a + 1) = cntTo x a + 1 := by
      rw [show cntTo x (a + 1) = cntTo x a + (if x.testBit a then 1 else 0) from rfl, if_pos ha]
    have h2 := cntTo_mono x (show a + 1 ≤ b by omega)
    omega
  obtain ⟨_, h2, h3⟩ := h
  obtain ⟨_, h5, h6⟩ := h'
  rcases Nat.lt_trichotomy k k' with h7 | h7 | h7
  · have := up _ _ h7 h2; omega
  · exact h7
  · have := up _ _ h7 h5; omega

theorem isNth_exists {x n : Nat} (k : Nat) (hk : k ≤ 64) (h : n < cntTo x k) : ∃ i, i < k ∧ IsNth x n i := by
  induction k with
  | zero => simp [cntTo] at h
  | succ k ih =>
    by_cases h1 : n < cntTo x k
    · obtain ⟨i, h2, h3⟩ := ih (by omega) h1
      exact ⟨i, by omega, h3⟩
    · rw [cntTo_succ] at h
      have hb : x.testBit k = true := by
        cases hb : x.testBit k with
        | true => rfl
        | false => rw [hb] at h; simp at h; omega
      rw [hb] at h
      simp at h
      exact ⟨k, by omega, by omega, hb, by omega⟩

/-- The n-th bit of a word, or -1. -/
def nthI (x : Nat) (n : Int) : Int :=
  match (List.range 64).find? (fun k => x.testBit k && decide ((cntTo x k : Int) = n)) with
  | some k => k
  | none => -1

theorem nthI_of {x n k : Nat} (h : IsNth x n k) : nthI x (n : Int) = (k : Int) := by
  unfold nthI
  split
  · rename_i k' hf
    have h1 := List.find?_some hf
    have h2 := List.mem_of_find?_eq_some hf
    simp at h1 h2
    rw [isNth_unique ⟨h2, h1.1, by omega⟩ h]
  · rename_i hf
    rw [List.find?_eq_none] at hf
    have := hf k (by simpa using h.1)
    simp [h.2.1, h.2.2] at this

theorem nthI_none {x : Nat} {n : Int} (h : n < 0 ∨ (cnt x : Int) ≤ n) : nthI x n = -1 := by
  unfold nthI
  split
  · rename_i k hf
    have h1 := List.find?_some hf
    have h2 := List.mem_of_find?_eq_some hf
    simp at h1 h2
    have h3 : cntTo x (k + 1) = cntTo x k + 1 := by
      rw [show cntTo x (k + 1) = cntTo x k + (if x.testBit k then 1 else 0) from rfl, if_pos h1.1]
    have h4 := cntTo_mono x (show k + 1 ≤ 64 by omega)
    unfold cnt at h
    omega
  · rfl

/-- A word without its n least bits. -/
def Cleared (x n y : Nat) : Prop := ∀ i, i < 64 → y.testBit i = (x.testBit i && decide (n ≤ cntTo x i))

theorem cleared_zero (x : Nat) : Cleared x 0 x := fun i _ => by simp

theorem bit_lt {x k : Nat} (h : x < 18446744073709551616) (hb : x.testBit k = true) : k < 64 := by
  rcases Nat.lt_or_ge k 64 with h1 | h1
  · exact h1
  · rw [Nat.testBit_lt_two_pow (Nat.lt_of_lt_of_le (show x < 2 ^ 64 from h) (Nat.pow_le_pow_right (by decide) h1))] at hb
    cases hb

/-- The least bit of a word without its n least bits is the n-th. -/
theorem cleared_low {x n y : Nat} (hc : Cleared x n y) (hn : n < cnt x) (hy : y < 18446744073709551616) :
    ∃ k m, IsNth x n k ∧ y ≠ 0 ∧ y = 2 ^ k * (2 * m + 1) ∧ Lib.ctz 64 y = k := by
  obtain ⟨k, _, hk⟩ := isNth_exists 64 (Nat.le_refl _) hn
  have hyk : y.testBit k = true := by rw [hc k hk.1, hk.2.1, hk.2.2]; simp
  have hy0 : y ≠ 0 := by rintro rfl; simp at hyk
  obtain ⟨c, m, hc1, hc2, hc3⟩ := low_form y hy0 hy
  have hyc : y.testBit c = true := by rw [hc2, form_bit]; simp
  have hcc : c ≤ k := by
    rw [hc2, form_bit] at hyk
    simp at hyk
    exact hyk.1
  have hcx := hc c hc1
  rw [hyc] at hcx
  simp at hcx
  have : c = k := by
    have h1 := cntTo_mono x hcc
    have h2 : cntTo x c = n := by have := hk.2.2; omega
    exact isNth_unique ⟨hc1, hcx.1, h2⟩ hk
  subst this
  exact ⟨c, m, hk, hy0, hc2, hc3⟩

theorem cleared_succ {x n y : Nat} (hc : Cleared x n y) (hn : n < cnt x) (hy : y < 18446744073709551616) : Cleared x (n + 1) (y &&& (y - 1)) := by
  obtain ⟨k, m, hk, _, he, _⟩ := cleared_low hc hn hy
  intro i hi
  rw [he, form_pred, ← he, hc i hi]
  cases hb : x.testBit i with
  | false => simp
  | true =>
    simp only [Bool.true_and]
    by_cases h1 : cntTo x i = n
    · have : i = k := isNth_unique ⟨hi, hb, h1⟩ hk
      subst this
      simp [h1]
    · have : i ≠ k := by rintro rfl; exact h1 hk.2.2
      simp [this]
      omega

/-- The greatest bit. -/
def hiI (x : Nat) : Int := (Lib.bitLen x : Int) - 1

theorem hiI_of {x k : Nat} (hb : x.testBit k = true) (hn : ∀ j, k < j → x.testBit j = false) (h : x < 18446744073709551616) : hiI x = k := by
  have h1 : 2 ^ k ≤ x := Nat.ge_two_pow_of_testBit hb
  have h2 : x < 2 ^ (k + 1) := Nat.lt_pow_two_of_testBit x (fun j hj => hn j (by omega))
  have h3 := Lib.bitLen_shift k x h1 h
  have h4 : x / 2 ^ k = 1 := by
    rw [Nat.pow_succ] at h2
    apply Nat.div_eq_of_lt_le <;> omega
  rw [h4] at h3
  have h5 : Lib.bitLen 1 = 1 := by decide
  unfold hiI
  omega

theorem hiI_zero : hiI 0 = -1 := by decide

/-- The least bit. -/
def loI (x : Nat) : Int := if x = 0 then -1 else (Lib.ctz 64 x : Int)

theorem nth_zero (x : Nat) (h : x < 18446744073709551616) : nthI x 0 = loI x := by
  unfold loI
  by_cases h0 : x = 0
  · subst h0
    rw [if_pos rfl]
    exact nthI_none (.inr (by simp [cnt, cntTo_zero]))
  · rw [if_neg h0]
    obtain ⟨c, m, h1, h2, h3⟩ := low_form x h0 h
    have hb : x.testBit c = true := by rw [h2, form_bit]; simp
    have hz : cntTo x c = 0 := by
      rw [cntTo_congr (y := 0) (fun i hi => by rw [h2, form_bit]; simp; omega)]
      exact cntTo_zero c
    rw [h3]
    exact nthI_of ⟨h1, hb, hz⟩
end Go.Proofs.YtdbbnoffoaldfaaDoor
