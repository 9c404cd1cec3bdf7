/- What the reference's functions on words compute. -/
import Derived.Test.YtmoegebikfchjaaDoorWordsWalks
namespace Go.Proofs.YtmoegebikfchjaaDoor
open Go.RowKit
set_option linter.unusedVariables false

theorem pow_lt64 {j : Nat} (h : j < 64) : 2 ^ j < 18446744073709551616 := by
  have := Nat.pow_lt_pow_right (a := 2) (by omega) h
  simpa using this

theorem power_any (i : Nat) (w : World) (hi : i < 64) :
    Calls Tryd.prog 31 #[.int .i64 i] w fun e w' => e = .returned (.int .u64 ((2 ^ i : Nat) : Int)) ∧ w = w' := by
  obtain ⟨p, hp⟩ : ∃ p, p = 2 ^ i := ⟨_, rfl⟩
  rw [← hp]
  have HP := Lib.hid hp
  clear hp
  go_enter Tryd.func31, Tryd.ntmps31
  go_wp2_with fail
  go_loop [0, 3] (fun t y => ∃ (j k y' : Nat), j + k = i ∧ t = .int .i64 j ∧ y = .int .u64 y' ∧ y' = 2 ^ k) (fun t _ => (intOf t).toNat)
  case atStart => exact ⟨i, 0, 1, by omega, rfl, rfl, rfl⟩
  case round =>
    obtain ⟨j, k, y, hjk, rfl, rfl, hy⟩ := hrel
    have HY := Lib.hid hy
    have HJ := Lib.hid hjk
    have hji : j ≤ i := by omega
    clear hy hjk
    by_cases hj : 0 < j
    · have e1 : IntKind.u64.wrap ((y : Int) * 2) = ((2 * y : Nat) : Int) := by
        have := pow_lt64 (j := k + 1) (by have := HJ.out; omega)
        rw [Nat.pow_succ, ← HY.out] at this
        rw [show (y : Int) * 2 = ((2 * y : Nat) : Int) by omega, wrap_u64_nat _ (by omega)]
      go_wp2_with fail
      go_round
      case rel => exact ⟨j - 1, k + 1, 2 * y, by have := HJ.out; omega, congrArg (Value.int .i64) (by omega), rfl, by rw [Nat.pow_succ, ← HY.out]; omega⟩
      case measure => simp [intOf]; omega
    · obtain rfl : j = 0 := by omega
      go_wp2_with fail
      go_ret
      refine ⟨ret_int ?_, rfl⟩
      rw [HP.out, HY.out, show k = i by have := HJ.out; omega]

theorem bit_in (x i : Nat) (w : World) (hx : x < 18446744073709551616) (hi : i < 64) :
    Calls Tryd.prog 28 #[.int .u64 x, .int .i64 i] w fun e w' => e = .returned (.bool (x.testBit i)) ∧ w = w' := by
  have A := Lib.hid (power_any i w hi)
  have hb : x.testBit i = decide (x / 2 ^ i % 2 = 1) := Nat.testBit_eq_decide_div_mod_eq
  have hp := Nat.two_pow_pos i
  have e1 : ((x : Int) / ((2 ^ i : Nat) : Int)) = ((x / 2 ^ i : Nat) : Int) := by omega
  generalize 2 ^ i = p at *
  obtain ⟨q, hq⟩ : ∃ q, q = x / p := ⟨_, rfl⟩
  rw [← hq] at e1 hb
  have e2 : ((x : Int) / (p : Int)) = (q : Int) := e1
  have hqx : q ≤ x := by rw [hq]; exact Nat.div_le_self _ _
  clear hq e1
  by_cases hq1 : q % 2 = 1
  · rw [hb, decide_eq_true hq1]
    have e3 : (q : Int) % 2 = 1 := by omega
    clear hb hq1
    go_enter Tryd.func28, Tryd.ntmps28
    go_wp2_with fail
    refine A.out.mono ?_; rintro e w1 ⟨rfl, rfl⟩
    go_wp2_with fail
    go_ret
    exact ⟨rfl, rfl⟩
  · rw [hb, decide_eq_false hq1]
    have e3 : (q : Int) % 2 = 0 := by omega
    clear hb hq1
    go_enter Tryd.func28, Tryd.ntmps28
    go_wp2_with fail
    refine A.out.mono ?_; rintro e w1 ⟨rfl, rfl⟩
    go_wp2_with fail
    go_ret
    exact ⟨rfl, rfl⟩

theorem refHigh_any (x : Nat) (w : World) (hx : x < 18446744073709551616) :
    Calls Tryd.prog 12 #[.int .u64 x] w fun e w' => e = .returned (.int .i64 (hiI x)) ∧ w = w' := by
  have HX := Lib.hid hx
  have hstart : ∀ j, 64 ≤ j → x.testBit j = false := fun j hj => by
    cases hb : x.testBit j with
    | false => rfl
    | true => have := bit_lt hx hb; omega
  have HS := Lib.hid hstart
  clear hx hstart
  go_enter Tryd.func12, Tryd.ntmps12
  go_wp2_with fail
  go_loop [3] (fun t => ∃ k : Nat, k ≤ 64 ∧ t = .int .i64 ((k : Int) - 1) ∧ ∀ j, k ≤ j → x.testBit j = false) (fun t => (intOf t + 1).toNat)
  case atStart => exact ⟨64, by omega, rfl, HS.out⟩
  case round =>
    obtain ⟨k, hk, rfl, hn⟩ := hrel
    have HN := Lib.hid hn
    clear hn HS
    by_cases hk0 : 0 < k
    · obtain ⟨m, rfl⟩ : ∃ m, k = m + 1 := ⟨k - 1, by omega⟩
      have e1 : ((m + 1 : Nat) : Int) - 1 = (m : Int) := by omega
      rw [e1]
      have B := Lib.hid (bit_in x m w HX.out (by omega))
      clear e1
      have hm0 : 0 ≤ (m : Int) := by omega
      cases hb : x.testBit m with
      | true =>
        rw [hb] at B
        have hh := Lib.hid (hiI_of hb (fun j hj => HN.out j (by omega)) HX.out)
        clear hb
        go_wp2_with fail
        refine B.out.mono ?_; rintro e w1 ⟨rfl, rfl⟩
        go_wp2_with fail
        go_ret
        exact ⟨ret_int hh.out.symm, rfl⟩
      | false =>
        rw [hb] at B
        have HB := Lib.hid hb
        clear hb
        go_wp2_with fail
        refine B.out.mono ?_; rintro e w1 ⟨rfl, rfl⟩
        go_wp2_with fail
        go_round
        case rel => exact ⟨m, by omega, rfl, fun j hj => by
          by_cases e : j = m
          · rw [e]; exact HB.out
          · exact HN.out j (by omega)⟩
        case measure => simp [intOf]
    · obtain rfl : k = 0 := by omega
      have hx0 : Hid (hiI x = -1) := Lib.hid (by
        have : x = 0 := Nat.eq_of_testBit_eq (fun i => by rw [HN.out i (by omega)]; simp)
        rw [this]; exact hiI_zero)
      go_wp2_with fail
      go_ret
      exact ⟨ret_int hx0.out.symm, rfl⟩

theorem refCount_any (x : Nat) (w : World) (hx : x < 18446744073709551616) :
    Calls Tryd.prog 16 #[.int .u64 x] w fun e w' => e = .returned (.int .i64 (cnt x)) ∧ w = w' := by
  have HX := Lib.hid hx
  clear hx
  go_enter Tryd.func16, Tryd.ntmps16
  go_wp2_with fail
  go_loop [3, 4] (fun n t => ∃ (k c : Nat), k ≤ 64 ∧ t = .int .i64 k ∧ n = .int .i64 c ∧ c ≤ k ∧ c = cntTo x k) (fun _ t => 64 - (intOf t).toNat)
  case atStart => exact ⟨0, 0, by omega, rfl, rfl, by omega, rfl⟩
  case round =>
    obtain ⟨k, c, hk, rfl, rfl, hck, hc⟩ := hrel
    have HC := Lib.hid hc
    clear hc
    by_cases hk0 : k < 64
    · have B := Lib.hid (bit_in x k w HX.out (by omega))
      have HS := Lib.hid (cntTo_succ x k)
      cases hb : x.testBit k with
      | true =>
        rw [hb] at B HS
        clear hb
        go_wp2_with fail
        refine B.out.mono ?_; rintro e w1 ⟨rfl, rfl⟩
        go_wp2_with fail
        go_round
        case rel => exact ⟨k + 1, c + 1, by omega, by go_num, by go_num, by omega, by rw [HS.out, HC.out]; rfl⟩
        case measure => simp [intOf]; omega
      | false =>
        rw [hb] at B HS
        clear hb
        go_wp2_with fail
        refine B.out.mono ?_; rintro e w1 ⟨rfl, rfl⟩
        go_wp2_with fail
        go_round
        case rel => exact ⟨k + 1, c, by omega, by go_num, rfl, by omega, by rw [HS.out, HC.out]; rfl⟩
        case measure => simp [intOf]; omega
    · obtain rfl : k = 64 := by omega
      go_wp2_with fail
      go_ret
      exact ⟨ret_int (by rw [HC.out]; rfl), rfl⟩

theorem refNth_any (x : Nat) (n : Int) (w : World) (hx : x < 18446744073709551616) (hn0 : -9223372036854775808 ≤ n) (hn1 : n ≤ 9223372036854775807) :
    Calls Tryd.prog 18 #[.int .u64 x, .int .i64 n] w fun e w' => e = .returned (.int .i64 (nthI x n)) ∧ w = w' := by
  have HX := Lib.hid hx
  obtain ⟨r, hr⟩ : ∃ r, r = nthI x n := ⟨_, rfl⟩
  rw [← hr]
  have HR := Lib.hid hr
  have h0 := Lib.hid (show wrap64 (n - (0 : Nat)) = n by unfold wrap64; omega)
  have HN0 := Lib.hid hn0
  have HN1 := Lib.hid hn1
  clear hx hr hn0 hn1
  go_enter Tryd.func18, Tryd.ntmps18
  go_wp2_with fail
  go_loop [1, 5] (fun m t => ∃ (k : Nat) (d : Int), k ≤ 64 ∧ t = .int .i64 k ∧ m = .int .i64 d ∧ d = wrap64 (n - (cntTo x k : Nat)) ∧ ∀ j, j < k → x.testBit j = true → (cntTo x j : Int) ≠ n) (fun _ t => 64 - (intOf t).toNat)
  case atStart => exact ⟨0, n, by omega, rfl, rfl, h0.out.symm, fun j hj => by omega⟩
  case round =>
    obtain ⟨k, d, hk, rfl, rfl, hd, hno⟩ := hrel
    have HD := Lib.hid hd
    have HNo := Lib.hid hno
    have hck := cntTo_le x k
    have HCK := Lib.hid hck
    clear hd hno hck h0
    by_cases hk0 : k < 64
    · have B := Lib.hid (bit_in x k w HX.out (by omega))
      have HS := Lib.hid (cntTo_succ x k)
      cases hb : x.testBit k with
      | true =>
        rw [hb] at B HS
        have HB := Lib.hid hb
        clear hb
        by_cases hd0 : d = 0
        · subst hd0
          have hfin : Hid (r = k) := Lib.hid (by
            have h1 := HD.out
            have h2 := HCK.out
            have h3 := HN0.out
            have h4 := HN1.out
            have : n = (cntTo x k : Nat) := by unfold wrap64 at h1; omega
            rw [HR.out, this]
            exact nthI_of ⟨hk0, HB.out, rfl⟩)
          go_wp2_with fail
          refine B.out.mono ?_; rintro e w1 ⟨rfl, rfl⟩
          go_wp2_with fail
          go_ret
          exact ⟨ret_int hfin.out.symm, rfl⟩
        · have hd1 : (d == 0) = false := by simpa using hd0
          have hnx : Hid (wrap64 (d - 1) = wrap64 (n - (cntTo x (k + 1) : Nat))) := Lib.hid (by
            rw [HS.out, HD.out]
            simp only [if_true]
            unfold wrap64; omega)
          have hne : Hid ((cntTo x k : Int) ≠ n) := Lib.hid (by
            intro e
            apply hd0
            rw [HD.out, ← e]; unfold wrap64; omega)
          obtain ⟨d', hd'⟩ : ∃ d', d' = wrap64 (d - 1) := ⟨_, rfl⟩
          rw [← hd'] at hnx
          have hd2 := hd'.symm
          go_wp2_with fail
          refine B.out.mono ?_; rintro e w1 ⟨rfl, rfl⟩
          go_wp2_with fail
          go_round
          case rel => exact ⟨k + 1, _, by omega, by go_num, rfl, by first | exact hnx.out | (rw [← hnx.out]; exact hd'.symm), fun j hj hbj => by
            by_cases e : j = k
            · rw [e]; exact hne.out
            · exact HNo.out j (by omega) hbj⟩
          case measure => simp [intOf]; omega
      | false =>
        rw [hb] at B HS
        have HB := Lib.hid hb
        clear hb
        go_wp2_with fail
        refine B.out.mono ?_; rintro e w1 ⟨rfl, rfl⟩
        go_wp2_with fail
        go_round
        case rel => exact ⟨k + 1, d, by omega, by go_num, rfl, by rw [HS.out]; exact HD.out, fun j hj hbj => by
          by_cases e : j = k
          · rw [e, HB.out] at hbj; cases hbj
          · exact HNo.out j (by omega) hbj⟩
        case measure => simp [intOf]; omega
    · obtain rfl : k = 64 := by omega
      have hfin : Hid (r = -1) := Lib.hid (by
        rw [HR.out]
        apply nthI_none
        by_cases h1 : n < 0
        · exact .inl h1
        · by_cases h2 : (cnt x : Int) ≤ n
          · exact .inr h2
          · obtain ⟨i, hi, hi2⟩ := isNth_exists (x := x) (n := n.toNat) 64 (Nat.le_refl _) (by unfold cnt at h2; omega)
            exact absurd (by rw [hi2.2.2]; omega) (HNo.out i hi hi2.2.1))
      go_wp2_with fail
      go_ret
      exact ⟨ret_int hfin.out.symm, rfl⟩

theorem refLow_any (x : Nat) (w : World) (hx : x < 18446744073709551616) :
    Calls Tryd.prog 14 #[.int .u64 x] w fun e w' => e = .returned (.int .i64 (loI x)) ∧ w = w' := by
  have A := Lib.hid (refNth_any x 0 w hx (by omega) (by omega))
  rw [nth_zero x hx] at A
  go_enter Tryd.func14, Tryd.ntmps14
  go_wp2_with fail
  refine A.out.mono ?_; rintro e w1 ⟨rfl, rfl⟩
  go_wp2_with fail
  go_ret
  exact ⟨rfl, rfl⟩
end Go.Proofs.YtmoegebikfchjaaDoor
