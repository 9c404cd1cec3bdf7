/- Words of sixteen bits as sets, in plain Lean. No condition. -/
import Derived.Test.YtfhkhknnoepfeaaHistLin3
namespace Go.Proofs.Ytfhkhknnoepfeaa
open Go.RowKit

theorem bits_and_u16_nat (a b : Nat) (ha : a < 65536) (hb : b < 65536) : bits .and .u16 (a : Int) (b : Int) = ((a &&& b : Nat) : Int) := by
  have hx : a &&& b < 2 ^ 16 := Nat.and_lt_two_pow _ (by omega)
  have h1 : (BitVec.ofInt 16 (a : Int)).toNat = a := by
    rw [BitVec.ofInt_natCast, BitVec.toNat_ofNat]; exact Nat.mod_eq_of_lt (by omega)
  have h2 : (BitVec.ofInt 16 (b : Int)).toNat = b := by
    rw [BitVec.ofInt_natCast, BitVec.toNat_ofNat]; exact Nat.mod_eq_of_lt (by omega)
  show IntKind.u16.wrap ((BitVec.ofInt 16 (a : Int) &&& BitVec.ofInt 16 (b : Int)).toNat : Int) = _
  rw [BitVec.toNat_and, h1, h2]
  exact wrap_u16_nat _ (by omega)

theorem shr_bit (d j : Nat) (hd : d < 65536) (hj : j < 16) : (bits .and .u16 ((d : Int) / 2 ^ min (IntKind.u64.wrap (j : Int)).toNat 16) 1 == 1) = d.testBit j := by
  have hw : IntKind.u64.wrap (j : Int) = j := by rw [IntKind.wrap_u64]; omega
  rw [hw]
  have hm : min ((j : Int)).toNat 16 = j := by omega
  rw [hm]
  have e1 : (d : Int) / 2 ^ j = ((d / 2 ^ j : Nat) : Int) := by simp
  have e2 : (1 : Int) = ((1 : Nat) : Int) := rfl
  have hq : d / 2 ^ j < 65536 := Nat.lt_of_le_of_lt (Nat.div_le_self _ _) hd
  rw [e1]
  rw [show bits .and .u16 ((d / 2 ^ j : Nat) : Int) 1 = bits .and .u16 ((d / 2 ^ j : Nat) : Int) ((1 : Nat) : Int) from rfl, bits_and_u16_nat _ _ hq (by omega), Nat.and_one_is_mod, Nat.testBit_eq_decide_div_mod_eq, Bool.eq_iff_iff]
  simp
  omega

theorem andnot_zero (E d : Nat) (hE : E < 65536) (hd : d < 65536) : (bits .andNot .u16 (E : Int) (d : Int) != 0) = true ↔ ¬ ∀ j, E.testBit j = true → d.testBit j = true := by
  have h1 : (BitVec.ofInt 16 (E : Int)).toNat = E := by
    rw [BitVec.ofInt_natCast, BitVec.toNat_ofNat]; exact Nat.mod_eq_of_lt (by omega)
  have h2 : (BitVec.ofInt 16 (d : Int)).toNat = d := by
    rw [BitVec.ofInt_natCast, BitVec.toNat_ofNat]; exact Nat.mod_eq_of_lt (by omega)
  have hb : bits .andNot .u16 (E : Int) (d : Int) = ((E &&& (2 ^ 16 - (d + 1)) : Nat) : Int) := by
    have hx : E &&& (2 ^ 16 - (d + 1)) < 2 ^ 16 := Nat.lt_of_le_of_lt Nat.and_le_left (by omega)
    show IntKind.u16.wrap ((BitVec.ofInt 16 (E : Int) &&& ~~~ BitVec.ofInt 16 (d : Int)).toNat : Int) = _
    rw [BitVec.toNat_and, BitVec.toNat_not, h1, h2, show 2 ^ 16 - 1 - d = 2 ^ 16 - (d + 1) by omega]
    exact wrap_u16_nat _ (by omega)
  rw [hb]
  have hbit : ∀ j, (E &&& (2 ^ 16 - (d + 1))).testBit j = (E.testBit j && (decide (j < 16) && !d.testBit j)) := fun j => by
    rw [Nat.testBit_and, Nat.testBit_two_pow_sub_succ (by omega)]
  constructor
  · intro h hall
    have : E &&& (2 ^ 16 - (d + 1)) = 0 := by
      apply Nat.eq_of_testBit_eq
      intro j
      rw [hbit, Nat.zero_testBit]
      cases e : E.testBit j with
      | false => rfl
      | true => rw [hall j e]; simp
    rw [this] at h
    simp at h
  · intro h
    have hne : E &&& (2 ^ 16 - (d + 1)) ≠ 0 := fun e => h (fun j hj => by
      have h3 := hbit j
      rw [e, Nat.zero_testBit, hj] at h3
      have hj16 : j < 16 := by
        rcases Nat.lt_or_ge j 16 with g | g
        · exact g
        · have := Nat.testBit_lt_two_pow (show E < 2 ^ j from Nat.lt_of_lt_of_le (by omega) (Nat.pow_le_pow_right (by omega) g))
          rw [hj] at this; cases this
      simp [hj16] at h3
      exact h3)
    generalize E &&& (2 ^ 16 - (d + 1)) = x at hne
    rw [bne_iff_ne]
    omega
end Go.Proofs.Ytfhkhknnoepfeaa
