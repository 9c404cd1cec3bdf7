/- The laws WordsCuts, WordsOrder, WordsKeys of chapter 1, walked. -/
import Derived.Test.YtmoegebikfchjaaDoorWordsLaws
import Derived.Test.YtmoegebikfchjaaDoorWordsPlain3
namespace Go.Proofs.YtmoegebikfchjaaDoor
open Go.RowKit
set_option linter.unusedVariables false

theorem span_lo (a : Nat) (ha : a ≤ 64) : spanN 0 a = 2 ^ a - 1 := by
  unfold spanN
  rw [show (min (a : Int) 64) = a by omega, show (min (max (0 : Int) 0) (a : Int)) = 0 by omega]
  simp
theorem span_hi (a : Nat) (ha : a ≤ 64) : spanN a 64 = 18446744073709551616 - 2 ^ a := by
  unfold spanN
  rw [show (min (64 : Int) 64) = 64 by omega, show (min (max (a : Int) 0) (64 : Int)) = a by omega]
  simp

theorem at_bd (t : Int) (h1 : -65 < t) (h2 : t < 65) : ∃ a : Nat, a ≤ 64 ∧ (t + 65) % 65 = a := ⟨((t + 65) % 65).toNat, by omega, by omega⟩

set_option maxHeartbeats 800000 in
theorem WordsCuts_any (w : World) (x : Nat) (hx : x < 18446744073709551616) (n : Int) (hT : TabAt w) :
    Calls Tryd.prog 5 #[.int .u64 x, .int .i64 n] w fun e w' => e = .returned (.bool true) ∧ Only [] w w' := by
  have A := Lib.hid (awake_any w hT)
  have HR := Lib.hid (Only.refl [] w)
  obtain ⟨t1, t2⟩ := tmod_bd n (n := 65) (by omega)
  generalize ht : n.tmod 65 = t at t1 t2
  obtain ⟨a, ha, hat⟩ := at_bd t t1 t2
  have HC := Lib.hid (cut_of x a ha hx)
  have B := Lib.hid (span_any 0 a w (by omega) (by omega) (by omega))
  have B' := Lib.hid (span_any a 64 w (by omega) (by omega) (by omega))
  have HX := Lib.hid hx
  rw [span_lo a ha] at B
  rw [span_hi a ha] at B'
  have e1 := bits_and_u64_nat x (2 ^ a - 1) hx (by have := Nat.pow_le_pow_right (n := 2) (by omega) ha; omega)
  have e2 := bits_and_u64_nat x (18446744073709551616 - 2 ^ a) hx (by have := Nat.two_pow_pos a; omega)
  obtain ⟨m1, hm1⟩ : ∃ m, m = 2 ^ a - 1 := ⟨_, rfl⟩
  obtain ⟨m2, hm2⟩ : ∃ m, m = 18446744073709551616 - 2 ^ a := ⟨_, rfl⟩
  rw [← hm1] at B e1 HC
  rw [← hm2] at B' e2 HC
  clear hm1 hm2
  obtain ⟨l, hl⟩ : ∃ l, l = x &&& m1 := ⟨_, rfl⟩
  obtain ⟨h, hh⟩ : ∃ h, h = x &&& m2 := ⟨_, rfl⟩
  rw [← hl] at e1 HC
  rw [← hh] at e2 HC
  clear hl hh
  have e3 : bits BinOp.or IntKind.u64 (l : Int) (h : Int) = (x : Int) := by rw [bits_or_u64_nat _ _ HC.out.hl HC.out.hh, HC.out.or]
  have e4 : bits BinOp.and IntKind.u64 (l : Int) (h : Int) = 0 := by rw [bits_and_u64_nat _ _ HC.out.hl HC.out.hh, HC.out.and]; rfl
  have C1 := Lib.hid (count_any l w HC.out.hl)
  have C2 := Lib.hid (count_any h w HC.out.hh)
  have C3 := Lib.hid (count_any x w hx)
  have c1 := cnt_le l
  have c2 := cnt_le h
  have e5 : (cnt l : Int) + (cnt h : Int) = (cnt x : Int) := by rw [← HC.out.sum]; omega
  generalize cnt l = n1 at *
  generalize cnt h = n2 at *
  generalize cnt x = n3 at *
  have D1 := Lib.hid (high_any l w HC.out.hl)
  have D2 := Lib.hid (low_any h w HC.out.hh hT)
  have d1 : l ≠ 0 → hiI l < a := HC.out.top
  have d2 : h ≠ 0 → (a : Int) ≤ loI h := HC.out.bot
  generalize hiI l = r1 at *
  generalize loI h = r2 at *
  clear hx hT
  by_cases hl0 : l = 0
  · subst hl0
    by_cases hh0 : h = 0
    · subst hh0
      clear d1 d2
      go_enter Tryd.func5, Tryd.ntmps5
      go_wp2_with fail
      refine B.out.mono ?_; rintro e w1 ⟨rfl, rfl⟩
      go_wp2_with fail
      refine B'.out.mono ?_; rintro e w1 ⟨rfl, rfl⟩
      go_wp2_with fail
      refine A.out.mono ?_; rintro e w1 ⟨rfl, rfl⟩
      go_wp2_with fail
      refine C1.out.mono ?_; rintro e w1 ⟨rfl, rfl⟩
      go_wp2_with fail
      refine C2.out.mono ?_; rintro e w1 ⟨rfl, rfl⟩
      go_wp2_with fail
      refine C3.out.mono ?_; rintro e w1 ⟨rfl, rfl⟩
      go_wp2_with fail
      go_ret
      exact ⟨rfl, HR.out⟩
    · have d3 := d2 hh0
      have d4 : ((h : Int) == 0) = false := by simp; omega
      clear d1 d2 hh0
      go_enter Tryd.func5, Tryd.ntmps5
      go_wp2_with fail
      refine B.out.mono ?_; rintro e w1 ⟨rfl, rfl⟩
      go_wp2_with fail
      refine B'.out.mono ?_; rintro e w1 ⟨rfl, rfl⟩
      go_wp2_with fail
      refine A.out.mono ?_; rintro e w1 ⟨rfl, rfl⟩
      go_wp2_with fail
      refine C1.out.mono ?_; rintro e w1 ⟨rfl, rfl⟩
      go_wp2_with fail
      refine C2.out.mono ?_; rintro e w1 ⟨rfl, rfl⟩
      go_wp2_with fail
      refine C3.out.mono ?_; rintro e w1 ⟨rfl, rfl⟩
      go_wp2_with fail
      refine D2.out.mono ?_; rintro e w1 ⟨rfl, rfl⟩
      go_wp2_with fail
      go_ret
      exact ⟨rfl, HR.out⟩
  · have d5 := d1 hl0
    have d6 : ((l : Int) == 0) = false := by simp; omega
    by_cases hh0 : h = 0
    · subst hh0
      clear d1 d2 hl0
      go_enter Tryd.func5, Tryd.ntmps5
      go_wp2_with fail
      refine B.out.mono ?_; rintro e w1 ⟨rfl, rfl⟩
      go_wp2_with fail
      refine B'.out.mono ?_; rintro e w1 ⟨rfl, rfl⟩
      go_wp2_with fail
      refine A.out.mono ?_; rintro e w1 ⟨rfl, rfl⟩
      go_wp2_with fail
      refine C1.out.mono ?_; rintro e w1 ⟨rfl, rfl⟩
      go_wp2_with fail
      refine C2.out.mono ?_; rintro e w1 ⟨rfl, rfl⟩
      go_wp2_with fail
      refine C3.out.mono ?_; rintro e w1 ⟨rfl, rfl⟩
      go_wp2_with fail
      refine D1.out.mono ?_; rintro e w1 ⟨rfl, rfl⟩
      go_wp2_with fail
      go_ret
      exact ⟨rfl, HR.out⟩
    · have d3 := d2 hh0
      have d4 : ((h : Int) == 0) = false := by simp; omega
      clear d1 d2 hh0 hl0
      go_enter Tryd.func5, Tryd.ntmps5
      go_wp2_with fail
      refine B.out.mono ?_; rintro e w1 ⟨rfl, rfl⟩
      go_wp2_with fail
      refine B'.out.mono ?_; rintro e w1 ⟨rfl, rfl⟩
      go_wp2_with fail
      refine A.out.mono ?_; rintro e w1 ⟨rfl, rfl⟩
      go_wp2_with fail
      refine C1.out.mono ?_; rintro e w1 ⟨rfl, rfl⟩
      go_wp2_with fail
      refine C2.out.mono ?_; rintro e w1 ⟨rfl, rfl⟩
      go_wp2_with fail
      refine C3.out.mono ?_; rintro e w1 ⟨rfl, rfl⟩
      go_wp2_with fail
      refine D1.out.mono ?_; rintro e w1 ⟨rfl, rfl⟩
      go_wp2_with fail
      refine D2.out.mono ?_; rintro e w1 ⟨rfl, rfl⟩
      go_wp2_with fail
      go_ret
      exact ⟨rfl, HR.out⟩
end Go.Proofs.YtmoegebikfchjaaDoor
