/- Cutting a word at a bit, taking its bits in order, classes: plain Lean. No program in sight. -/
import Derived.Test.YtmoegebikfchjaaDoorWordsPlain2
namespace Go.Proofs.YtmoegebikfchjaaDoor
open Go

theorem cntTo_split {x l h k : Nat} (e : ∀ i, i < k → (x.testBit i = true ↔ (l.testBit i = true ∨ h.testBit i = true)) ∧ ¬ (l.testBit i = true ∧ h.testBit i = true)) : cntTo l k + cntTo h k = cntTo x k := by
  induction k with
  | zero => rfl
  | succ k ih =>
    have i1 := ih (fun i hi => e i (by omega))
    obtain ⟨e1, e2⟩ := e k (by omega)
    rw [cntTo_succ, cntTo_succ, cntTo_succ]
    cases hx : x.testBit k <;> cases hl : l.testBit k <;> cases hh : h.testBit k <;> simp_all <;> omega

theorem cut_low (x a i : Nat) : (x &&& (2 ^ a - 1)).testBit i = (x.testBit i && decide (i < a)) := by
  rw [Nat.testBit_and, Nat.testBit_two_pow_sub_one]

theorem cut_mask (a i : Nat) (ha : a ≤ 64) : (18446744073709551616 - 2 ^ a).testBit i = (decide (a ≤ i) && decide (i < 64)) := by
  have e : 18446744073709551616 - 2 ^ a = 2 ^ a * (2 ^ (64 - a) - 1) := by
    rw [Nat.mul_sub, ← Nat.pow_add, Nat.mul_one, show a + (64 - a) = 64 by omega]
  rw [e, Nat.testBit_two_pow_mul, Nat.testBit_two_pow_sub_one]
  by_cases h : a ≤ i
  · simp [h]; omega
  · simp [h]

theorem cut_high (x a i : Nat) (ha : a ≤ 64) (hx : x < 18446744073709551616) : (x &&& (18446744073709551616 - 2 ^ a)).testBit i = (x.testBit i && decide (a ≤ i)) := by
  rw [Nat.testBit_and, cut_mask a i ha]
  cases hb : x.testBit i with
  | false => simp
  | true => have := bit_lt hx hb; simp [this]

/-- A word cut at a: the two parts. -/
structure Cut (x a l h : Nat) : Prop where
  hl : l < 18446744073709551616
  hh : h < 18446744073709551616
  or : l ||| h = x
  and : l &&& h = 0
  sum : cnt l + cnt h = cnt x
  top : l ≠ 0 → hiI l < a
  bot : h ≠ 0 → (a : Int) ≤ loI h

theorem cut_of (x a : Nat) (ha : a ≤ 64) (hx : x < 18446744073709551616) : Cut x a (x &&& (2 ^ a - 1)) (x &&& (18446744073709551616 - 2 ^ a)) := by
  have h1 := cut_low x a
  have h2 := fun i => cut_high x a i ha hx
  refine ⟨Nat.lt_of_le_of_lt Nat.and_le_left hx, Nat.lt_of_le_of_lt Nat.and_le_left hx, ?_, ?_, ?_, fun h0 => ?_, fun h0 => ?_⟩
  · apply Nat.eq_of_testBit_eq
    intro i
    rw [Nat.testBit_or, h1, h2]
    by_cases h : i < a
    · simp [h, Nat.not_le.2 h]
    · simp [h, Nat.le_of_not_lt h]
  · apply Nat.eq_of_testBit_eq
    intro i
    rw [Nat.testBit_and, h1, h2]
    by_cases h : i < a
    · simp [h]
    · simp [h]
  · apply cntTo_split
    intro i _
    rw [h1, h2]
    by_cases h : i < a
    · simp [h, Nat.not_le.2 h]
    · simp [h, Nat.le_of_not_lt h]
  · have hb : x &&& (2 ^ a - 1) < 2 ^ a := Nat.lt_of_le_of_lt Nat.and_le_right (by have := Nat.two_pow_pos a; omega)
    have := Lib.bitLen_le _ a ha hb
    unfold hiI
    omega
  · obtain ⟨c, m, h3, h4, h5⟩ := low_form _ h0 (Nat.lt_of_le_of_lt Nat.and_le_left hx)
    unfold loI
    rw [if_neg h0, h5]
    have hb : (x &&& (18446744073709551616 - 2 ^ a)).testBit c = true := by rw [h4, form_bit]; simp
    rw [h2] at hb
    simp at hb
    omega

/-- Between two places with as many bits below them there is no bit. -/
theorem no_between {x a b : Nat} (h : cntTo x a = cntTo x b) : ∀ i, a ≤ i → i < b → x.testBit i = false := by
  intro i h1 h2
  cases hb : x.testBit i with
  | false => rfl
  | true =>
    have h3 := cntTo_succ x i
    rw [hb] at h3
    simp at h3
    have h4 := cntTo_mono x h1
    have h5 := cntTo_mono x (show i + 1 ≤ b by omega)
    omega

theorem mod_between {x a b : Nat} (hab : a ≤ b) (h : cntTo x a = cntTo x b) : x % 2 ^ a = x % 2 ^ b := by
  apply Nat.eq_of_testBit_eq
  intro i
  rw [Nat.testBit_mod_two_pow, Nat.testBit_mod_two_pow]
  by_cases h1 : i < a
  · simp [h1, Nat.lt_of_lt_of_le h1 hab]
  · by_cases h2 : i < b
    · simp [h1, h2, no_between h i (by omega) h2]
    · simp [h1, h2]

/-- The k-th bit, behind a place m with k bits below it. -/
theorem nth_step {x m k b : Nat} (hm : cntTo x m = k) (hb : IsNth x k b) : m ≤ b ∧ cntTo x (b + 1) = k + 1 ∧ x % 2 ^ (b + 1) = x % 2 ^ m + 2 ^ b := by
  have h1 := cntTo_succ x b
  rw [hb.2.1] at h1
  simp at h1
  have hmb : m ≤ b := by
    rcases Nat.lt_or_ge b m with h | h
    · have := cntTo_mono x (show b + 1 ≤ m by omega)
      have := hb.2.2
      omega
    · exact h
  have h2 := mod_between hmb (hm.trans hb.2.2.symm)
  have h3 : x % 2 ^ (b + 1) = x % 2 ^ b + 2 ^ b * (x / 2 ^ b % 2) := Nat.mod_pow_succ
  have h4 := hb.2.1
  rw [Nat.testBit_eq_decide_div_mod_eq, decide_eq_true_eq] at h4
  rw [h4, Nat.mul_one] at h3
  refine ⟨hmb, by rw [h1, hb.2.2], ?_⟩
  rw [h3, h2]

theorem nth_last {x c b : Nat} (hx : x < 18446744073709551616) (hc : cnt x = c + 1) (hb : IsNth x c b) : hiI x = b := by
  have h1 := cntTo_succ x b
  rw [hb.2.1] at h1
  simp at h1
  have h2 : cntTo x (b + 1) = cntTo x 64 := by
    rw [h1, hb.2.2]; exact hc.symm
  refine hiI_of hb.2.1 (fun j hj => ?_) hx
  cases hbj : x.testBit j with
  | false => rfl
  | true =>
    have h3 := bit_lt hx hbj
    rw [no_between h2 j (by omega) h3] at hbj
    cases hbj

theorem mod_end {x m : Nat} (hx : x < 18446744073709551616) (hm : m ≤ 64) (hc : cntTo x m = cnt x) : x % 2 ^ m = x := by
  rw [mod_between hm hc]
  exact Nat.mod_eq_of_lt hx

/-- Classes ascend. -/
theorem class_step {l n c : Int} (hn : 1 ≤ n) (hc1 : 1 ≤ c) (hcn : c ≤ n) : l * c / n ≤ (l + 1) * c / n ∧ (l + 1) * c / n ≤ l * c / n + 1 := by
  have e : (l + 1) * c = l * c + c := by rw [Int.add_mul, Int.one_mul]
  rw [e]
  constructor
  · exact Int.ediv_le_ediv (by omega) (by omega)
  · have : l * c + c ≤ l * c + n * 1 := by omega
    have h2 := Int.ediv_le_ediv (c := n) (by omega) this
    rw [Int.add_mul_ediv_left _ _ (by omega)] at h2
    exact h2
theorem class_end {n c : Int} (hn : 1 ≤ n) (hc1 : 1 ≤ c) (hcn : c ≤ n) : (n - 1) * c / n = c - 1 := by
  have e : (n - 1) * c = (n - c) + n * (c - 1) := by
    rw [Int.sub_mul, Int.mul_sub, Int.one_mul, Int.mul_one]; omega
  rw [e, Int.add_mul_ediv_left _ _ (by omega), Int.ediv_eq_zero_of_lt (by omega) (by omega), Int.zero_add]
end Go.Proofs.YtmoegebikfchjaaDoor
