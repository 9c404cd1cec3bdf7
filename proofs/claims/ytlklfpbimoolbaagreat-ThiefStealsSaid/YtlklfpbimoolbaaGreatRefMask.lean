/- The reference's words with one bit. -/
import Derived.Test.YtlklfpbimoolbaaGreatDqKeep
namespace Go.Proofs.YtlklfpbimoolbaaGreat
open Go.RowKit
set_option linter.unusedVariables false

theorem wrap_u64_nat (n : Nat) (h : n < 18446744073709551616) : IntKind.u64.wrap (n : Int) = n := by rw [IntKind.wrap_u64]; omega
theorem pow_lt64 {j : Nat} (h : j < 64) : 2 ^ j < 18446744073709551616 := by
  have := Nat.pow_lt_pow_right (a := 2) (by omega) h
  simpa using this

theorem power_any (i : Nat) (w : World) (hi : i < 64) :
    Calls Tryz.prog 125 #[.int .i64 i] w fun e w' => e = .returned (.int .u64 ((2 ^ i : Nat) : Int)) ∧ w = w' := by
  obtain ⟨p, hp⟩ : ∃ p, p = 2 ^ i := ⟨_, rfl⟩
  rw [← hp]
  have HP := Lib.hid hp
  clear hp
  go_enter Tryz.func125, Tryz.ntmps125
  go_wp2_with fail
  go_loop [0, 3] (fun t y => ∃ (j k y' : Nat), j + k = i ∧ t = .int .i64 j ∧ y = .int .u64 y' ∧ y' = 2 ^ k) (fun t _ => (intOf t).toNat)
  case atStart => exact ⟨i, 0, 1, by omega, rfl, rfl, rfl⟩
  case round =>
    obtain ⟨j, k, y, hjk, rfl, rfl, hy⟩ := hrel
    have HY := Lib.hid hy
    have HJ := Lib.hid hjk
    have hji : j ≤ i := by omega
    clear hy hjk
    by_cases hj : 0 < j
    · have e1 : IntKind.u64.wrap ((y : Int) * 2) = ((2 * y : Nat) : Int) := by
        have := pow_lt64 (j := k + 1) (by have := HJ.out; omega)
        rw [Nat.pow_succ, ← HY.out] at this
        rw [show (y : Int) * 2 = ((2 * y : Nat) : Int) by omega, wrap_u64_nat _ (by omega)]
      go_wp2_with fail
      go_round
      case rel => exact ⟨j - 1, k + 1, 2 * y, by have := HJ.out; omega, congrArg (Value.int .i64) (by omega), rfl, by rw [Nat.pow_succ, ← HY.out]; omega⟩
      case measure => simp [intOf]; omega
    · obtain rfl : j = 0 := by omega
      go_wp2_with fail
      go_ret
      refine ⟨ret_int ?_, rfl⟩
      rw [HP.out, HY.out, show k = i by have := HJ.out; omega]

theorem refMask_any (w : World) (b : Int) :
    Calls Tryz.prog 94 #[.int .i64 b] w fun e w' => e = .returned (.int .u64 (mask b)) ∧ w = w' := by
  by_cases h : b < 0
  · go_enter Tryz.func94, Tryz.ntmps94
    go_wp2
    go_ret
    exact ⟨by rw [show mask b = 0 from if_pos (.inl h)]; rfl, rfl⟩
  · by_cases h2 : 63 < b
    · go_enter Tryz.func94, Tryz.ntmps94
      go_wp2
      go_ret
      exact ⟨by rw [show mask b = 0 from if_pos (.inr h2)]; rfl, rfl⟩
    · obtain ⟨i, rfl⟩ : ∃ i : Nat, b = i := ⟨b.toNat, by omega⟩
      have hi : i < 64 := by omega
      have em : mask (i : Int) = ((2 ^ i : Nat) : Int) := by unfold mask; rw [if_neg (by omega), Int.toNat_natCast]
      have A := Lib.hid (power_any i w hi)
      rw [em]
      obtain ⟨p, hp⟩ : ∃ p, p = 2 ^ i := ⟨_, rfl⟩
      rw [← hp] at A ⊢
      clear em hp
      go_enter Tryz.func94, Tryz.ntmps94
      go_wp2_with fail
      refine A.out.mono ?_; rintro e w1 ⟨rfl, rfl⟩
      go_wp2_with fail
      go_ret
      exact ⟨rfl, rfl⟩
end Go.Proofs.YtlklfpbimoolbaaGreat
