/- Words of 64 bits in plain Lean: their bits, how many they are, the n-th one; masks and ranges of bits. No program in sight. -/
import Derived.Lib.BitFns
import Derived.Lib.TrailingZeros
import Derived.Laws.Entries
namespace Go.Proofs.YtdbbnoffoaldfaaDoor
open Go

/-- How many of the bits below k are 1. -/
def cntTo (x : Nat) : Nat → Nat
  | 0 => 0
  | k + 1 => cntTo x k + (if x.testBit k then 1 else 0)
def cnt (x : Nat) : Nat := cntTo x 64
theorem cntTo_succ (x k : Nat) : cntTo x (k + 1) = cntTo x k + (if x.testBit k then 1 else 0) := rfl

theorem cntTo_le (x k : Nat) : cntTo x k ≤ k := by
  induction k with
  | zero => exact Nat.le_refl _
  | succ k ih => rw [cntTo_succ]; split <;> omega

theorem cntTo_congr {x y k : Nat} (h : ∀ i, i < k → x.testBit i = y.testBit i) : cntTo x k = cntTo y k := by
  induction k with
  | zero => rfl
  | succ k ih => rw [cntTo_succ, cntTo_succ, ih (fun i hi => h i (by omega)), h k (by omega)]

theorem cntTo_zero (k : Nat) : cntTo 0 k = 0 := by
  induction k with
  | zero => rfl
  | succ k ih => rw [cntTo_succ, ih]; simp

theorem cntTo_mono (x : Nat) {i j : Nat} (h : i ≤ j) : cntTo x i ≤ cntTo x j := by
  induction j with
  | zero => obtain rfl : i = 0 := by omega
            exact Nat.le_refl _
  | succ j ih =>
    by_cases e : i = j + 1
    · subst e; exact Nat.le_refl _
    · have := ih (by omega); rw [cntTo_succ]; omega

/-- A word cut at k: the bits from k on, moved. -/
theorem cntTo_add (x a b : Nat) : cntTo x (a + b) = cntTo x a + cntTo (x / 2 ^ a) b := by
  induction b with
  | zero => simp [cntTo]
  | succ b ih =>
    rw [← Nat.add_assoc]
    rw [cntTo_succ, cntTo_succ, ih, Nat.testBit_div_two_pow, Nat.add_comm b a]
    omega

theorem testBit_lo8 (b y i : Nat) (hb : b < 256) (hi : i < 8) : (b + 256 * y).testBit i = b.testBit i := by
  have := Nat.testBit_two_pow_mul_add y (i := 8) (b := b) hb i
  rw [Nat.add_comm, show (256 : Nat) = 2 ^ 8 from rfl, this, if_pos hi]

theorem cntTo_byte (b y k : Nat) (hb : b < 256) : cntTo (b + 256 * y) (8 + k) = cntTo b 8 + cntTo y k := by
  rw [cntTo_add, cntTo_congr (fun i hi => testBit_lo8 b y i hb hi)]
  congr 2
  rw [show (2 : Nat) ^ 8 = 256 from rfl]
  omega

theorem and_byte (p q r s : Nat) (hp : p < 256) (hr : r < 256) : (p + 256 * q) &&& (r + 256 * s) = (p &&& r) + 256 * (q &&& s) := by
  have hpr : p &&& r < 2 ^ 8 := Nat.lt_of_le_of_lt Nat.and_le_left hp
  apply Nat.eq_of_testBit_eq
  intro i
  rw [Nat.testBit_and, Nat.add_comm p, Nat.add_comm r, Nat.add_comm (p &&& r), show (256 : Nat) = 2 ^ 8 from rfl,
    Nat.testBit_two_pow_mul_add _ hp, Nat.testBit_two_pow_mul_add _ hr, Nat.testBit_two_pow_mul_add _ hpr]
  split <;> simp [Nat.testBit_and]

/-- n bytes of one kind. -/
def rep (m : Nat) : Nat → Nat
  | 0 => 0
  | n + 1 => m + 256 * rep m n

def s1 (n x : Nat) : Nat := (x / 2 &&& rep 85 n) + (x &&& rep 85 n)
def s2 (n x : Nat) : Nat := (x / 4 &&& rep 51 n) + (x &&& rep 51 n)
def s3 (n x : Nat) : Nat := (x / 16 + x) &&& rep 15 n

theorem lo1 : ∀ b : Fin 256, ∀ t : Fin 2, ((b.val / 2 + 128 * t.val) &&& 85) = b.val / 2 &&& 85 := by decide +kernel
theorem lo2 : ∀ b : Fin 256, ∀ t : Fin 4, ((b.val / 4 + 64 * t.val) &&& 51) = b.val / 4 &&& 51 := by decide +kernel

theorem and_rep_succ (b q m n : Nat) (hb : b < 256) (hm : m < 256) : (b + 256 * q) &&& rep m (n + 1) = (b &&& m) + 256 * (q &&& rep m n) := and_byte _ _ _ _ hb hm

theorem s1_succ (n b y : Nat) (hb : b < 256) : s1 (n + 1) (b + 256 * y) = s1 1 b + 256 * s1 n y := by
  have e : (b + 256 * y) / 2 = (b / 2 + 128 * (y % 2)) + 256 * (y / 2) := by omega
  have l := lo1 ⟨b, hb⟩ ⟨y % 2, by omega⟩
  simp only at l
  have k1 : b / 2 &&& rep 85 1 = b / 2 &&& 85 := rfl
  have k2 : b &&& rep 85 1 = b &&& 85 := rfl
  unfold s1
  rw [e, and_rep_succ _ _ _ _ (by omega) (by omega), and_rep_succ _ _ _ _ hb (by omega), l, k1, k2]
  omega

theorem s2_succ (n b y : Nat) (hb : b < 256) : s2 (n + 1) (b + 256 * y) = s2 1 b + 256 * s2 n y := by
  have e : (b + 256 * y) / 4 = (b / 4 + 64 * (y % 4)) + 256 * (y / 4) := by omega
  have l := lo2 ⟨b, hb⟩ ⟨y % 4, by omega⟩
  simp only at l
  have k1 : b / 4 &&& rep 51 1 = b / 4 &&& 51 := rfl
  have k2 : b &&& rep 51 1 = b &&& 51 := rfl
  unfold s2
  rw [e, and_rep_succ _ _ _ _ (by omega) (by omega), and_rep_succ _ _ _ _ hb (by omega), l, k1, k2]
  omega

theorem lo3 : ∀ b : Fin 256, ∀ t : Fin 16, b.val / 16 ≤ 4 → b.val % 16 ≤ 4 → t.val ≤ 4 → ((b.val / 16 + b.val + 16 * t.val) &&& 15) = (b.val / 16 + b.val) &&& 15 ∧ b.val / 16 + b.val + 16 * t.val < 256 := by decide +kernel

/-- Each of the 2 n half bytes is at most 4. -/
def nib4 : Nat → Nat → Prop
  | 0, x => x = 0
  | n + 1, x => x % 256 / 16 ≤ 4 ∧ x % 16 ≤ 4 ∧ nib4 n (x / 256)

theorem s3_succ (n b y : Nat) (hb : b < 256) (h1 : b / 16 ≤ 4) (h2 : b % 16 ≤ 4) (h3 : y % 16 ≤ 4) : s3 (n + 1) (b + 256 * y) = s3 1 b + 256 * s3 n y := by
  have e : (b + 256 * y) / 16 + (b + 256 * y) = (b / 16 + b + 16 * (y % 16)) + 256 * (y / 16 + y) := by omega
  have l := lo3 ⟨b, hb⟩ ⟨y % 16, by omega⟩ h1 h2 h3
  simp only at l
  have k1 : (b / 16 + b) &&& rep 15 1 = (b / 16 + b) &&& 15 := rfl
  unfold s3
  rw [e, and_rep_succ _ _ _ _ l.2 (by omega), l.1, k1]

theorem byte_all : ∀ b : Fin 256, s3 1 (s2 1 (s1 1 b.val)) = cntTo b.val 8 ∧ s1 1 b.val < 256 ∧ s2 1 (s1 1 b.val) < 256 ∧ s2 1 (s1 1 b.val) / 16 ≤ 4 ∧ s2 1 (s1 1 b.val) % 16 ≤ 4 := by decide +kernel

theorem nib4_low {n x : Nat} (h : nib4 n x) : x % 16 ≤ 4 := by
  cases n with
  | zero => unfold nib4 at h; subst h; decide
  | succ n => exact h.2.1

/-- The bytes' own counts, put together. -/
def cb : Nat → Nat → Nat
  | 0, _ => 0
  | n + 1, x => cntTo (x % 256) 8 + 256 * cb n (x / 256)

theorem swar : ∀ (n x : Nat), x < 256 ^ n → s3 n (s2 n (s1 n x)) = cb n x ∧ nib4 n (s2 n (s1 n x)) := by
  intro n
  induction n with
  | zero => intro x hx; obtain rfl : x = 0 := by simpa using hx
            exact ⟨rfl, rfl⟩
  | succ n ih =>
    intro x hx
    obtain ⟨b, y, rfl, hb⟩ : ∃ b y, x = b + 256 * y ∧ b < 256 := ⟨x % 256, x / 256, by omega, by omega⟩
    have hy : y < 256 ^ n := by
      rw [Nat.pow_succ] at hx
      apply Nat.lt_of_mul_lt_mul_left (a := 256)
      omega
    obtain ⟨i1, i2⟩ := ih y hy
    obtain ⟨b1, b2, b3, b4, b5⟩ := byte_all ⟨b, hb⟩
    simp only at b1 b2 b3 b4 b5
    rw [s1_succ n b y hb, s2_succ n _ _ b2, s3_succ n _ _ b3 b4 b5 (nib4_low i2), b1, i1]
    refine ⟨?_, ?_, ?_, ?_⟩
    · rw [show cb (n + 1) (b + 256 * y) = cntTo ((b + 256 * y) % 256) 8 + 256 * cb n ((b + 256 * y) / 256) from rfl, show (b + 256 * y) % 256 = b by omega, show (b + 256 * y) / 256 = y by omega]
    · omega
    · omega
    · rw [show (s2 1 (s1 1 b) + 256 * s2 n (s1 n y)) / 256 = s2 n (s1 n y) by omega]; exact i2

theorem cnt_bytes (x : Nat) : cntTo x 64 = cntTo (x % 256) 8 + (cntTo (x / 256 % 256) 8 + (cntTo (x / 65536 % 256) 8 + (cntTo (x / 16777216 % 256) 8 + (cntTo (x / 4294967296 % 256) 8 + (cntTo (x / 1099511627776 % 256) 8 + (cntTo (x / 281474976710656 % 256) 8 + cntTo (x / 72057594037927936 % 256) 8)))))) := by
  have step : ∀ (y k : Nat), cntTo y (8 + k) = cntTo (y % 256) 8 + cntTo (y / 256) k := fun y k => by
    have := cntTo_byte (y % 256) (y / 256) k (by omega)
    rwa [show y % 256 + 256 * (y / 256) = y by omega] at this
  have last : ∀ y, cntTo y 8 = cntTo (y % 256) 8 := fun y => by
    have := step y 0
    simpa [cntTo_zero, cntTo] using this
  rw [show (64 : Nat) = 8 + (8 + (8 + (8 + (8 + (8 + (8 + 8)))))) from rfl, step, step, step, step, step, step, step]
  simp only [Nat.div_div_eq_div_mul]
  rw [last (x / (256 * 256 * 256 * 256 * 256 * 256 * 256))]

/-- What the library's OnesCount64 computes. -/
def ones (x : Nat) : Nat :=
  let a := s3 8 (s2 8 (s1 8 x))
  let b := a + a / 256
  let c := b + b / 65536
  let d := c + c / 4294967296
  d % 128

theorem lin2 (c0 c1 c2 c3 c4 c5 c6 c7 : Nat) : c0 + 256 * (c1 + 256 * (c2 + 256 * (c3 + 256 * (c4 + 256 * (c5 + 256 * (c6 + 256 * c7)))))) + (c1 + 256 * (c2 + 256 * (c3 + 256 * (c4 + 256 * (c5 + 256 * (c6 + 256 * c7)))))) =
    ((c0 + c1) + 256 * (c1 + c2)) + 65536 * ((c2 + c3) + 256 * ((c3 + c4) + 256 * ((c4 + c5) + 256 * ((c5 + c6) + 256 * ((c6 + c7) + 256 * c7))))) := by omega
theorem lin3 (c0 c1 c2 c3 c4 c5 c6 c7 : Nat) : ((c0 + c1) + 256 * (c1 + c2)) + 65536 * ((c2 + c3) + 256 * ((c3 + c4) + 256 * ((c4 + c5) + 256 * ((c5 + c6) + 256 * ((c6 + c7) + 256 * c7))))) + ((c2 + c3) + 256 * ((c3 + c4) + 256 * ((c4 + c5) + 256 * ((c5 + c6) + 256 * ((c6 + c7) + 256 * c7))))) =
    ((c0 + c1 + c2 + c3) + 256 * (c1 + c2 + c3 + c4) + 65536 * (c2 + c3 + c4 + c5) + 16777216 * (c3 + c4 + c5 + c6)) + 4294967296 * ((c4 + c5 + c6 + c7) + 256 * ((c5 + c6 + c7) + 256 * ((c6 + c7) + 256 * c7))) := by omega
theorem lin4 (c0 c1 c2 c3 c4 c5 c6 c7 : Nat) : ((c0 + c1 + c2 + c3) + 256 * (c1 + c2 + c3 + c4) + 65536 * (c2 + c3 + c4 + c5) + 16777216 * (c3 + c4 + c5 + c6)) + 4294967296 * ((c4 + c5 + c6 + c7) + 256 * ((c5 + c6 + c7) + 256 * ((c6 + c7) + 256 * c7))) + ((c4 + c5 + c6 + c7) + 256 * ((c5 + c6 + c7) + 256 * ((c6 + c7) + 256 * c7))) =
    (c0 + (c1 + (c2 + (c3 + (c4 + (c5 + (c6 + c7))))))) + 128 * (2 * ((c1 + c2 + c3 + c4) + (c5 + c6 + c7)) + 512 * ((c2 + c3 + c4 + c5) + (c6 + c7)) + 131072 * ((c3 + c4 + c5 + c6) + c7) + 33554432 * ((c4 + c5 + c6 + c7) + 256 * ((c5 + c6 + c7) + 256 * ((c6 + c7) + 256 * c7)))) := by omega
theorem lin5 (c0 c1 c2 c3 c4 c5 c6 c7 : Nat) (l0 : c0 ≤ 8) (l1 : c1 ≤ 8) (l2 : c2 ≤ 8) (l3 : c3 ≤ 8) (l4 : c4 ≤ 8) (l5 : c5 ≤ 8) (l6 : c6 ≤ 8) (l7 : c7 ≤ 8) :
    c0 < 256 ∧ c0 + c1 + 256 * (c1 + c2) < 65536 ∧ (c0 + c1 + c2 + c3) + 256 * (c1 + c2 + c3 + c4) + 65536 * (c2 + c3 + c4 + c5) + 16777216 * (c3 + c4 + c5 + c6) < 4294967296 ∧ c0 + (c1 + (c2 + (c3 + (c4 + (c5 + (c6 + c7)))))) < 128 ∧
    (c0 + (c1 + (c2 + (c3 + (c4 + (c5 + (c6 + c7))))))) + 128 * (2 * ((c1 + c2 + c3 + c4) + (c5 + c6 + c7)) + 512 * ((c2 + c3 + c4 + c5) + (c6 + c7)) + 131072 * ((c3 + c4 + c5 + c6) + c7) + 33554432 * ((c4 + c5 + c6 + c7) + 256 * ((c5 + c6 + c7) + 256 * ((c6 + c7) + 256 * c7)))) < 18446744073709551616 := by omega

theorem fold8 (c0 c1 c2 c3 c4 c5 c6 c7 A : Nat) (l0 : c0 ≤ 8) (l1 : c1 ≤ 8) (l2 : c2 ≤ 8) (l3 : c3 ≤ 8) (l4 : c4 ≤ 8) (l5 : c5 ≤ 8) (l6 : c6 ≤ 8) (l7 : c7 ≤ 8)
    (hA : A = c0 + 256 * (c1 + 256 * (c2 + 256 * (c3 + 256 * (c4 + 256 * (c5 + 256 * (c6 + 256 * c7))))))) :
    (A + A / 256 + (A + A / 256) / 65536 + (A + A / 256 + (A + A / 256) / 65536) / 4294967296) % 128 = c0 + (c1 + (c2 + (c3 + (c4 + (c5 + (c6 + c7)))))) ∧
    A + A / 256 + (A + A / 256) / 65536 + (A + A / 256 + (A + A / 256) / 65536) / 4294967296 < 18446744073709551616 := by
  obtain ⟨h1, h2, h3, h4, h5⟩ := lin5 c0 c1 c2 c3 c4 c5 c6 c7 l0 l1 l2 l3 l4 l5 l6 l7
  have e1 : A / 256 = c1 + 256 * (c2 + 256 * (c3 + 256 * (c4 + 256 * (c5 + 256 * (c6 + 256 * c7))))) := by
    rw [hA, Nat.add_mul_div_left _ _ (by decide), Nat.div_eq_of_lt h1, Nat.zero_add]
  rw [e1, hA, lin2, Nat.add_mul_div_left _ _ (by decide), Nat.div_eq_of_lt h2, Nat.zero_add, lin3, Nat.add_mul_div_left _ _ (by decide), Nat.div_eq_of_lt h3, Nat.zero_add, lin4, Nat.add_mul_mod_self_left, Nat.mod_eq_of_lt h4]
  exact ⟨rfl, h5⟩

theorem ones_eq (x : Nat) (hx : x < 18446744073709551616) : ones x = cnt x ∧ s3 8 (s2 8 (s1 8 x)) = cb 8 x := by
  have h := (swar 8 x hx).1
  refine ⟨?_, h⟩
  have l := fun y => cntTo_le y 8
  unfold ones cnt
  rw [h, cnt_bytes]
  simp only [cb, Nat.div_div_eq_div_mul, Nat.reduceMul, Nat.mul_zero, Nat.add_zero]
  have l0 := l (x % 256)
  have l1 := l (x / 256 % 256)
  have l2 := l (x / 65536 % 256)
  have l3 := l (x / 16777216 % 256)
  have l4 := l (x / 4294967296 % 256)
  have l5 := l (x / 1099511627776 % 256)
  have l6 := l (x / 281474976710656 % 256)
  have l7 := l (x / 72057594037927936 % 256)
  have f := fold8 _ _ _ _ _ _ _ _ _ l0 l1 l2 l3 l4 l5 l6 l7 rfl
  exact f.1

theorem cnt_le (x : Nat) : cnt x ≤ 64 := cntTo_le x 64
end Go.Proofs.YtdbbnoffoaldfaaDoor
