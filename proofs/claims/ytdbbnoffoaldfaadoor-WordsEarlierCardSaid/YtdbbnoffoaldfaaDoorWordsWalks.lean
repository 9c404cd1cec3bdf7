/- What math/bits' Len64, TrailingZeros64, OnesCount64 and the functions of package words compute. -/
import Derived.Test.YtdbbnoffoaldfaaDoorRows
import Derived.Test.YtdbbnoffoaldfaaDoorKit
import Derived.Test.YtdbbnoffoaldfaaDoorWordsPlain2
import Derived.Test.YtdbbnoffoaldfaaDoorBitsLen
import Derived.Laws.Bits64b
import Derived.WalkSpells
import Derived.IntWalk
namespace Go.Proofs.YtdbbnoffoaldfaaDoor
open Go.RowKit
set_option linter.unusedVariables false

theorem wrap_u64_nat (a : Nat) (h : a < 18446744073709551616) : IntKind.u64.wrap (a : Int) = (a : Int) := by
  rw [IntKind.wrap_u64]; omega
theorem bits_and_i64_nat (a b : Nat) (ha : a < 9223372036854775808) (hb : b < 9223372036854775808) : bits .and .i64 (a : Int) (b : Int) = ((a &&& b : Nat) : Int) := by
  have hx : a &&& b < 2 ^ 63 := Nat.and_lt_two_pow _ (by omega)
  have h1 : (BitVec.ofInt 64 (a : Int)).toNat = a := by
    rw [BitVec.ofInt_natCast, BitVec.toNat_ofNat]; exact Nat.mod_eq_of_lt (by omega)
  have h2 : (BitVec.ofInt 64 (b : Int)).toNat = b := by
    rw [BitVec.ofInt_natCast, BitVec.toNat_ofNat]; exact Nat.mod_eq_of_lt (by omega)
  show IntKind.i64.wrap ((BitVec.ofInt 64 (a : Int) &&& BitVec.ofInt 64 (b : Int)).toNat : Int) = _
  rw [BitVec.toNat_and, h1, h2]
  exact IntWalk.i64_in _ (by omega)

theorem ones_l1 (X : Nat) (hx : X < 18446744073709551616) : IntKind.u64.wrap (bits BinOp.and IntKind.u64 ((X : Int) / 2) 6148914691236517205 + bits BinOp.and IntKind.u64 (X : Int) 6148914691236517205) = ((s1 8 X : Nat) : Int) ∧ s1 8 X ≤ 12297829382473034410 := by
  have e : (X : Int) / 2 = ((X / 2 : Nat) : Int) := by omega
  have m : (6148914691236517205 : Int) = ((6148914691236517205 : Nat) : Int) := rfl
  have hr : rep 85 8 = 6148914691236517205 := by decide
  have b1 : X / 2 &&& 6148914691236517205 ≤ 6148914691236517205 := Nat.and_le_right
  have b2 : X &&& 6148914691236517205 ≤ 6148914691236517205 := Nat.and_le_right
  unfold s1
  rw [hr, e, m, bits_and_u64_nat _ _ (by omega) (by omega), bits_and_u64_nat _ _ hx (by omega), ← Int.natCast_add, wrap_u64_nat _ (by omega)]
  exact ⟨rfl, by omega⟩
theorem ones_l2 (X : Nat) (hx : X < 18446744073709551616) : IntKind.u64.wrap (bits BinOp.and IntKind.u64 ((X : Int) / 4) 3689348814741910323 + bits BinOp.and IntKind.u64 (X : Int) 3689348814741910323) = ((s2 8 X : Nat) : Int) ∧ s2 8 X ≤ 7378697629483820646 := by
  have e : (X : Int) / 4 = ((X / 4 : Nat) : Int) := by omega
  have m : (3689348814741910323 : Int) = ((3689348814741910323 : Nat) : Int) := rfl
  have hr : rep 51 8 = 3689348814741910323 := by decide
  have b1 : X / 4 &&& 3689348814741910323 ≤ 3689348814741910323 := Nat.and_le_right
  have b2 : X &&& 3689348814741910323 ≤ 3689348814741910323 := Nat.and_le_right
  unfold s2
  rw [hr, e, m, bits_and_u64_nat _ _ (by omega) (by omega), bits_and_u64_nat _ _ hx (by omega), ← Int.natCast_add, wrap_u64_nat _ (by omega)]
  exact ⟨rfl, by omega⟩
theorem ones_l3 (X : Nat) (hx : X ≤ 7378697629483820646) : bits BinOp.and IntKind.u64 (IntKind.u64.wrap ((X : Int) / 16 + (X : Int))) 1085102592571150095 = ((s3 8 X : Nat) : Int) ∧ s3 8 X ≤ 1085102592571150095 := by
  have e : (X : Int) / 16 + (X : Int) = ((X / 16 + X : Nat) : Int) := by omega
  have m : (1085102592571150095 : Int) = ((1085102592571150095 : Nat) : Int) := rfl
  have hr : rep 15 8 = 1085102592571150095 := by decide
  unfold s3
  rw [hr, e, m, wrap_u64_nat _ (by omega), bits_and_u64_nat _ _ (by omega) (by omega)]
  exact ⟨rfl, Nat.and_le_right⟩
theorem ones_l4 (A : Nat) (h : A ≤ 1085102592571150095) (k : Nat) (hk : 256 ≤ k) : IntKind.u64.wrap ((A : Int) + (A : Int) / (k : Int)) = ((A + A / k : Nat) : Int) ∧ A + A / k ≤ A + A / 256 := by
  have h1 : A / k ≤ A / 256 := Nat.div_le_div_left hk (by decide)
  have e : (A : Int) + (A : Int) / (k : Int) = ((A + A / k : Nat) : Int) := by rw [Int.natCast_add, Int.natCast_ediv]
  rw [e, wrap_u64_nat _ (by omega)]
  exact ⟨rfl, by omega⟩

theorem ones64_any (X : Nat) (w : World) (hx : X < 18446744073709551616) :
    Calls Tryd.prog 14 #[.int .u64 X] w fun e w' => e = .returned (.int .i64 (cnt X)) ∧ w = w' := by
  have hx' := Lib.hid hx
  clear hx
  go_enter Tryd.func14, Tryd.ntmps14
  go_wp2
  go_ret
  refine ⟨ret_int ?_, rfl⟩
  obtain ⟨e1, b1⟩ := ones_l1 X hx'.out
  rw [e1]
  obtain ⟨e2, b2⟩ := ones_l2 (s1 8 X) (by omega)
  rw [e2]
  obtain ⟨e3, b3⟩ := ones_l3 (s2 8 (s1 8 X)) b2
  rw [e3]
  have hones := (ones_eq X hx'.out).1
  unfold ones at hones
  simp only at hones
  generalize s3 8 (s2 8 (s1 8 X)) = A at *
  obtain ⟨e4, b4⟩ := ones_l4 A b3 256 (by omega)
  have e4' : IntKind.u64.wrap ((A : Int) + (A : Int) / 256) = ((A + A / 256 : Nat) : Int) := e4
  rw [e4']
  generalize hB : A + A / 256 = B at *
  have e5 : IntKind.u64.wrap ((B : Int) + (B : Int) / 65536) = ((B + B / 65536 : Nat) : Int) := by
    rw [show (B : Int) + (B : Int) / 65536 = ((B + B / 65536 : Nat) : Int) by omega, wrap_u64_nat _ (by omega)]
  rw [e5]
  generalize hC : B + B / 65536 = C at *
  have e6 : IntKind.u64.wrap ((C : Int) + (C : Int) / 4294967296) = ((C + C / 4294967296 : Nat) : Int) := by
    rw [show (C : Int) + (C : Int) / 4294967296 = ((C + C / 4294967296 : Nat) : Int) by omega, wrap_u64_nat _ (by omega)]
  rw [e6]
  have hD : C + C / 4294967296 < 9223372036854775808 := by omega
  generalize C + C / 4294967296 = D at *
  have e7 : wrap64 (D : Int) = (D : Int) := by unfold wrap64; omega
  have m : (127 : Int) = ((127 : Nat) : Int) := rfl
  rw [e7, m, bits_and_i64_nat _ _ hD (by omega), show (127 : Nat) = 2 ^ 7 - 1 from rfl, Nat.and_two_pow_sub_one_eq_mod]
  rw [← hones]

/-- The library's table, in its variable. -/
def TabAt (w : World) : Prop := ∀ j, j < Lib.deBruijn64tab.length → w.cell? ⟨0, j, none⟩ = some (.int .u8 (Lib.deBruijn64tab.getD j 0))

theorem tz64_core (x k idx : Nat) (w : World) (hx0 : ((x : Int) == 0) = false)
    (key : IntKind.u64.wrap (bits BinOp.and IntKind.u64 (x : Int) (IntKind.u64.wrap (-(x : Int))) * 285870213051353865) / 288230376151711744 = (idx : Int))
    (hi : idx < 64) (hk : k < 64) (hcell : w.cell? ⟨0, idx, none⟩ = some (.int .u8 k)) :
    Calls Tryd.prog 13 #[.int .u64 x] w fun e w' => e = .returned (.int .i64 k) ∧ w = w' := by
  go_enter Tryd.func13, Tryd.ntmps13
  go_wp2_with (simp only [key])
  go_ret
  exact ⟨rfl, rfl⟩

theorem tz64_key (x a : Nat) (hx : x < 18446744073709551616) (hx0 : x ≠ 0) (hlow : x &&& (18446744073709551616 - x) = a) :
    IntKind.u64.wrap (bits BinOp.and IntKind.u64 (x : Int) (IntKind.u64.wrap (-(x : Int))) * 285870213051353865) / 288230376151711744 = ((a * 285870213051353865 % 18446744073709551616 / 288230376151711744 : Nat) : Int) := by
  have e1 : IntKind.u64.wrap (-(x : Int)) = ((18446744073709551616 - x : Nat) : Int) := by rw [IntKind.wrap_u64]; omega
  rw [e1, bits_and_u64_nat x _ hx (by omega), hlow, IntKind.wrap_u64]
  omega

theorem tz64_any (x : Nat) (w : World) (hx : x < 18446744073709551616) (hx0 : x ≠ 0) (hT : TabAt w) :
    Calls Tryd.prog 13 #[.int .u64 x] w fun e w' => e = .returned (.int .i64 (Lib.ctz 64 x)) ∧ w = w' := by
  obtain ⟨hlow, hk⟩ := Lib.lowest_bit 64 x hx0 hx
  obtain ⟨hi, htab⟩ := Lib.deBruijn64_at _ hk
  have hcell := hT _ hi
  rw [htab] at hcell
  exact tz64_core x _ _ w (by simp; omega) (tz64_key x _ hx hx0 hlow) hi hk hcell

theorem high_any (x : Nat) (w : World) (hx : x < 18446744073709551616) :
    Calls Tryd.prog 6 #[.int .u64 x] w fun e w' => e = .returned (.int .i64 (hiI x)) ∧ w = w' := by
  have hl := Lib.bitLen_le x 64 (by omega) hx
  have A := Lib.hid (len64_int (x : Int) w (by omega) (by omega))
  rw [Int.toNat_natCast] at A
  unfold hiI
  generalize Lib.bitLen x = n at *
  go_enter Tryd.func6, Tryd.ntmps6
  go_wp2_with fail
  refine A.out.mono ?_; rintro e w1 ⟨rfl, rfl⟩
  go_wp2_with fail
  go_ret
  exact ⟨rfl, rfl⟩

theorem low_any (x : Nat) (w : World) (hx : x < 18446744073709551616) (hT : TabAt w) :
    Calls Tryd.prog 7 #[.int .u64 x] w fun e w' => e = .returned (.int .i64 (loI x)) ∧ w = w' := by
  unfold loI
  by_cases h0 : x = 0
  · subst h0
    go_enter Tryd.func7, Tryd.ntmps7
    go_wp2_with fail
    go_ret
    exact ⟨rfl, rfl⟩
  · have A := Lib.hid (tz64_any x w hx h0 hT)
    have hb : ((x : Int) == 0) = false := by simp; omega
    rw [if_neg h0]
    clear hT
    go_enter Tryd.func7, Tryd.ntmps7
    go_wp2_with fail
    refine A.out.mono ?_; rintro e w1 ⟨rfl, rfl⟩
    go_wp2_with fail
    go_ret
    exact ⟨rfl, rfl⟩

theorem count_any (x : Nat) (w : World) (hx : x < 18446744073709551616) :
    Calls Tryd.prog 8 #[.int .u64 x] w fun e w' => e = .returned (.int .i64 (cnt x)) ∧ w = w' := by
  have A := Lib.hid (ones64_any x w hx)
  go_enter Tryd.func8, Tryd.ntmps8
  go_wp2_with fail
  refine A.out.mono ?_; rintro e w1 ⟨rfl, rfl⟩
  go_wp2_with fail
  go_ret
  exact ⟨rfl, rfl⟩

theorem nth_any (x : Nat) (n : Int) (w : World) (hx : x < 18446744073709551616) (hT : TabAt w) (hn1 : n ≤ 9223372036854775807) :
    Calls Tryd.prog 9 #[.int .u64 x, .int .i64 n] w fun e w' => e = .returned (.int .i64 (nthI x n)) ∧ w = w' := by
  have A := Lib.hid (count_any x w hx)
  have hc := cnt_le x
  by_cases h0 : n < 0
  · rw [nthI_none (.inl h0)]
    clear hT
    go_enter Tryd.func9, Tryd.ntmps9
    go_wp2_with fail
    go_ret
    exact ⟨rfl, rfl⟩
  · by_cases h1 : (cnt x : Int) ≤ n
    · rw [nthI_none (.inr h1)]
      clear hT
      generalize cnt x = c at *
      go_enter Tryd.func9, Tryd.ntmps9
      go_wp2_with fail
      refine A.out.mono ?_; rintro e w1 ⟨rfl, rfl⟩
      go_wp2_with fail
      go_ret
      exact ⟨rfl, rfl⟩
    · obtain ⟨m, rfl⟩ : ∃ m : Nat, n = m := ⟨n.toNat, by omega⟩
      have HT := Lib.hid hT
      have HX := Lib.hid hx
      obtain ⟨c, hcc⟩ : ∃ c, c = cnt x := ⟨_, rfl⟩
      rw [← hcc] at A h1 hc
      have HC := Lib.hid hcc
      clear hT hx hcc
      have h1' : (m : Int) < c := by omega
      have hd : decide (c ≤ m) = false := by simp; omega
      have hstart := Lib.hid (cleared_zero x)
      clear h1
      go_enter Tryd.func9, Tryd.ntmps9
      go_wp2_with fail
      refine A.out.mono ?_; rintro e w1 ⟨rfl, rfl⟩
      go_wp2_with fail
      go_loop [0, 14] (fun y i => ∃ (k z : Nat), k ≤ m ∧ i = .int .i64 k ∧ y = .int .u64 z ∧ z < 18446744073709551616 ∧ Cleared x k z) (fun _ i => m - (intOf i).toNat)
      case atStart => exact ⟨0, x, Nat.zero_le _, rfl, rfl, HX.out, hstart.out⟩
      case round =>
        obtain ⟨k, z, hk, rfl, rfl, hz, hcl⟩ := hrel
        have HZ := Lib.hid hz
        have CL := Lib.hid hcl
        clear hz hcl hstart
        by_cases hlt : k < m
        · have hc2 := Lib.hid (cleared_succ CL.out (by have := HC.out; omega) HZ.out)
          obtain ⟨_, _, _, hz0, -, -⟩ := cleared_low CL.out (by have := HC.out; omega) HZ.out
          have e1 : IntKind.u64.wrap ((z : Int) - 1) = ((z - 1 : Nat) : Int) := by
            rw [show (z : Int) - 1 = ((z - 1 : Nat) : Int) by omega, wrap_u64_nat _ (by have := HZ.out; omega)]
          have e2 : bits BinOp.and IntKind.u64 (z : Int) ((z - 1 : Nat) : Int) = ((z &&& (z - 1) : Nat) : Int) := bits_and_u64_nat _ _ HZ.out (by have := HZ.out; omega)
          have hlt2 : Hid (z &&& (z - 1) < 18446744073709551616) := Lib.hid (Nat.lt_of_le_of_lt Nat.and_le_left HZ.out)
          generalize z &&& (z - 1) = y at *
          go_wp2_with fail
          go_round
          case rel => exact ⟨k + 1, y, by omega, by go_num, rfl, hlt2.out, hc2.out⟩
          case measure => simp [intOf]; omega
        · obtain rfl : k = m := by omega
          obtain ⟨j, _, hj, hz0, -, hctz⟩ := cleared_low CL.out (by have := HC.out; omega) HZ.out
          have L := Lib.hid (low_any z w HZ.out HT.out)
          have hlo : loI z = j := by unfold loI; rw [if_neg hz0, hctz]
          have hnth := Lib.hid (nthI_of hj)
          rw [hlo] at L
          clear hlo hctz hj
          go_wp2_with fail
          refine L.out.mono ?_; rintro e w1 ⟨rfl, rfl⟩
          go_wp2_with fail
          go_ret
          exact ⟨ret_int hnth.out.symm, rfl⟩
end Go.Proofs.YtdbbnoffoaldfaaDoor
