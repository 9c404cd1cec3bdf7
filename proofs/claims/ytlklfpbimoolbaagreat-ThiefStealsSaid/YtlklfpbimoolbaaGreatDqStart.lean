/- A new deque holds its entries. -/
import Derived.Test.YtlklfpbimoolbaaGreatDqDeque
import Derived.Test.YtlklfpbimoolbaaGreatBare
namespace Go.Proofs.YtlklfpbimoolbaaGreat
open Go.RowKit

theorem plc_nat {c i : Nat} (h : i < 18446744073709551616) : plc c (i : Int) = 2 + i % c := by
  unfold plc
  rw [IntKind.wrap_u64, show (i : Int) % 18446744073709551616 = i from by omega]
  rw [← Int.natCast_emod, Int.toNat_natCast]

theorem deqTo_spec {c t size : Nat} {f : Nat → Int} (hc : 1 ≤ c) (hsz : size ≤ c) (hb : t + c < 18446744073709551615) : ∀ k, k ≤ size →
    (deqTo c t size f k)[0]? = some (t : Int) ∧ (deqTo c t size f k)[1]? = some ((t + size : Nat) : Int) ∧ ∀ i, i < k → (deqTo c t size f k)[2 + (t + i) % c]? = some (f i)
  | 0, _ => by
    have h : (zeros (c + 3)).length = c + 3 := zeros_len _
    refine ⟨?_, ?_, fun i hi => by omega⟩
    · simp only [deqTo]
      rw [List.getElem?_set_ne (by omega), List.getElem?_set_self (by omega)]
    · simp only [deqTo]
      rw [List.getElem?_set_self (by simp [zeros])]
      rw [IntKind.wrap_u64]
      congr 1
      omega
  | k + 1, hk => by
    obtain ⟨a, b, d⟩ := deqTo_spec hc hsz hb k (by omega)
    have hp : plc c ((t : Int) + (k : Int)) = 2 + (t + k) % c := by rw [← Int.natCast_add]; exact plc_nat (by omega)
    simp only [deqTo, hp]
    have hlt := ring_bd (t + k) hc
    refine ⟨by rw [List.getElem?_set_ne (by omega)]; exact a, by rw [List.getElem?_set_ne (by omega)]; exact b, fun i hi => ?_⟩
    by_cases e : i = k
    · subst e
      rw [List.getElem?_set_self (by rw [deqTo_len]; omega)]
    · have := mod_ne (c := c) (i := t + i) (j := t + k) (by omega) (by omega)
      rw [List.getElem?_set_ne (by omega)]
      exact d i (by omega)

theorem at_get {s : MS} {c : Nat} {x : Int} (h : s.cells[c]? = some x) : s.at (c : Int) = x := by
  obtain ⟨hl, e⟩ := List.getElem?_eq_some_iff.1 h
  rw [at_in ⟨by omega, by omega⟩]
  simpa using e

theorem dq_start {c t size : Nat} {f : Nat → Int} {s : MS} (hc : 1 ≤ c) (hc2 : c < 1000) (hsz : size ≤ c) (hb : t + c < 18446744073709551615) (hf : ∀ i, 0 ≤ f i ∧ f i ≤ 18446744073709551615) (hs : s.cells = deqTo c t size f size) :
    DQ s c t ((List.range size).map f) := by
  obtain ⟨a, b, d⟩ := deqTo_spec (f := f) hc hsz hb size (Nat.le_refl _)
  rw [← hs] at a b d
  refine ⟨hc, by rw [hs, deqTo_len]; omega, at_get a, by rw [show (1 : Int) = ((1 : Nat) : Int) from rfl, at_get b]; simp, by simp; exact hsz, hb, hc2, fun i hi => ?_⟩
  simp at hi
  rw [show (2 : Int) + ((t + i) % c : Nat) = ((2 + (t + i) % c : Nat) : Int) from by omega, at_get (d i hi)]
  simp
  rw [IntKind.wrap_u64]
  have := hf i
  omega
end Go.Proofs.YtlklfpbimoolbaaGreat
