/- Span, Class, Pack and the sanity check of chapter 1 (printed by gen_wordsE.py out of XWordsRef, XWordsRest, XWordsLaws). -/
import Derived.Test.YtdbbnoffoaldfaaDoorWordsWalks
namespace Go.Proofs.YtdbbnoffoaldfaaDoor
open Go.RowKit
set_option linter.unusedVariables false

theorem pow_lt64 {j : Nat} (h : j < 64) : 2 ^ j < 18446744073709551616 := by
  have := Nat.pow_lt_pow_right (a := 2) (by omega) h
  simpa using this

/-- The word whose bits from l to h - 1 are 1. -/
def spanN (l h : Int) : Nat := 2 ^ (min h 64).toNat - 2 ^ (min (max l 0) (min h 64)).toNat

/-- The same, bit by bit. -/
def spanTo (l h : Int) : Nat → Nat
  | 0 => 0
  | k + 1 => spanTo l h k + (if l ≤ (k : Int) ∧ (k : Int) < h then 2 ^ k else 0)

theorem spanTo_succ (l h : Int) (k : Nat) : spanTo l h (k + 1) = spanTo l h k + (if l ≤ (k : Int) ∧ (k : Int) < h then 2 ^ k else 0) := rfl

theorem spanTo_eq (l h : Int) (k : Nat) : spanTo l h k = 2 ^ (min h k).toNat - 2 ^ (min (max l 0) (min h k)).toNat := by
  induction k with
  | zero =>
    have h1 : (min h ((0 : Nat) : Int)).toNat = 0 := by omega
    have h2 : (min (max l 0) (min h ((0 : Nat) : Int))).toNat = 0 := by omega
    rw [h1, h2]; rfl
  | succ k ih =>
    rw [spanTo_succ, ih]
    by_cases hc : l ≤ (k : Int) ∧ (k : Int) < h
    · rw [if_pos hc]
      have h1 : (min h ((k + 1 : Nat) : Int)).toNat = k + 1 := by omega
      have h2 : (min h (k : Int)).toNat = k := by omega
      have h3 : (min (max l 0) (min h ((k + 1 : Nat) : Int))).toNat = (max l 0).toNat := by omega
      have h4 : (min (max l 0) (min h (k : Int))).toNat = (max l 0).toNat := by omega
      rw [h1, h2, h3, h4, Nat.pow_succ]
      have : 2 ^ (max l 0).toNat ≤ 2 ^ k := Nat.pow_le_pow_right (by decide) (by omega)
      omega
    · rw [if_neg hc, Nat.add_zero]
      by_cases hh : (k : Int) < h
      · have h1 : (min (max l 0) (min h ((k + 1 : Nat) : Int))).toNat = (min h ((k + 1 : Nat) : Int)).toNat := by omega
        have h2 : (min (max l 0) (min h (k : Int))).toNat = (min h (k : Int)).toNat := by omega
        rw [h1, h2, Nat.sub_self, Nat.sub_self]
      · have h1 : min h ((k + 1 : Nat) : Int) = h := by omega
        have h2 : min h (k : Int) = h := by omega
        rw [h1, h2]

theorem spanTo_64 (l h : Int) : spanTo l h 64 = spanN l h := spanTo_eq l h 64

theorem spanTo_lt (l h : Int) (k : Nat) : spanTo l h k < 2 ^ k := by
  induction k with
  | zero => simp [spanTo]
  | succ k ih => rw [spanTo_succ, Nat.pow_succ]; split <;> omega

theorem spanN_lt (l h : Int) : spanN l h < 18446744073709551616 := by rw [← spanTo_64]; exact spanTo_lt l h 64

theorem ones_shift : ∀ n : Fin 65, 18446744073709551615 / 2 ^ (64 - n.val) = 2 ^ n.val - 1 := by decide +kernel

theorem span_val (l h : Int) (hlt : max l 0 < min h 64) : IntKind.u64.wrap (18446744073709551615 / 2 ^ (64 - (min h 64 - max l 0)).toNat * 2 ^ (max l 0).toNat) = ((spanN l h : Nat) : Int) := by
  obtain ⟨a, ha⟩ : ∃ a : Nat, max l 0 = a := ⟨(max l 0).toNat, by omega⟩
  obtain ⟨b, hb⟩ : ∃ b : Nat, min h 64 = b := ⟨(min h 64).toNat, by omega⟩
  have hab : a < b := by omega
  have hb64 : b ≤ 64 := by omega
  have hs : spanN l h = 2 ^ b - 2 ^ a := by
    unfold spanN
    rw [ha, hb, show (min (a : Int) (b : Int)) = a by omega, Int.toNat_natCast, Int.toNat_natCast]
  have e := ones_shift ⟨b - a, by omega⟩
  simp only at e
  rw [hs, ha, hb, show (64 - ((b : Int) - (a : Int))).toNat = 64 - (b - a) by omega, Int.toNat_natCast]
  have e2 : (18446744073709551615 : Int) / 2 ^ (64 - (b - a)) * 2 ^ a = ((18446744073709551615 / 2 ^ (64 - (b - a)) * 2 ^ a : Nat) : Int) := by
    rw [Int.natCast_mul, Int.natCast_ediv, Int.natCast_pow, Int.natCast_pow]; rfl
  have e3 : (2 ^ (b - a) - 1) * 2 ^ a = 2 ^ b - 2 ^ a := by
    rw [Nat.sub_mul, ← Nat.pow_add, Nat.one_mul, show b - a + a = b by omega]
  have e4 : 2 ^ b ≤ 2 ^ 64 := Nat.pow_le_pow_right (by decide) hb64
  have e5 := Nat.two_pow_pos a
  have e6 : 2 ^ a < 2 ^ b := Nat.pow_lt_pow_right (by decide) hab
  rw [e2, e, e3, wrap_u64_nat _ (by omega)]

theorem span_any (l h : Int) (w : World) (hl : -9223372036854775808 ≤ l) (hl2 : l ≤ 9223372036854775807) (hh : -9223372036854775808 ≤ h) :
    Calls Tryd.prog 10 #[.int .i64 l, .int .i64 h] w fun e w' => e = .returned (.int .u64 (spanN l h)) ∧ w = w' := by
  go_enter Tryd.func10, Tryd.ntmps10
  go_wp2_with fail
  · go_ret
    refine ⟨ret_int ?_, rfl⟩
    unfold spanN
    rw [show min (max l 0) (min h 64) = min h 64 by omega]
    simp
  · go_ret
    exact ⟨ret_int (span_val l h (by assumption)), rfl⟩

/-- The class of a level. -/
def classI (level levels classes : Int) : Int := if 1 ≤ levels ∧ levels ≤ 64 ∧ 1 ≤ classes ∧ classes ≤ 8 ∧ 0 ≤ level ∧ level < levels then level * classes / levels else 0

theorem class_out (level levels classes : Int) (w : World) (h : ¬ (1 ≤ levels ∧ levels ≤ 64 ∧ 1 ≤ classes ∧ classes ≤ 8 ∧ 0 ≤ level ∧ level < levels)) :
    Calls Tryd.prog 11 #[.int .i64 level, .int .i64 levels, .int .i64 classes] w fun e w' => e = .returned (.int .i64 0) ∧ w = w' := by
  by_cases h1 : levels < 1
  · clear h
    go_enter Tryd.func11, Tryd.ntmps11
    go_wp2_with fail
    go_ret
    exact ⟨rfl, rfl⟩
  · by_cases h2 : 64 < levels
    · clear h
      go_enter Tryd.func11, Tryd.ntmps11
      go_wp2_with fail
      go_ret
      exact ⟨rfl, rfl⟩
    · by_cases h3 : classes < 1
      · clear h
        go_enter Tryd.func11, Tryd.ntmps11
        go_wp2_with fail
        go_ret
        exact ⟨rfl, rfl⟩
      · by_cases h4 : 8 < classes
        · clear h
          go_enter Tryd.func11, Tryd.ntmps11
          go_wp2_with fail
          go_ret
          exact ⟨rfl, rfl⟩
        · by_cases h5 : level < 0
          · clear h
            go_enter Tryd.func11, Tryd.ntmps11
            go_wp2_with fail
            go_ret
            exact ⟨rfl, rfl⟩
          · have h6 : levels ≤ level := by omega
            clear h
            go_enter Tryd.func11, Tryd.ntmps11
            go_wp2_with fail
            go_ret
            exact ⟨rfl, rfl⟩

theorem prod_bd {a b : Int} (h1 : 0 ≤ a) (h2 : a ≤ 64) (h3 : 1 ≤ b) (h4 : b ≤ 8) : 0 ≤ a * b ∧ a * b ≤ 512 := by
  have e1 := Int.mul_nonneg h1 (show 0 ≤ b by omega)
  have e2 := Int.mul_le_mul h2 h4 (by omega) (by omega)
  omega

theorem class_in (level levels classes : Int) (w : World) (h1 : 1 ≤ levels) (h2 : levels ≤ 64) (h3 : 1 ≤ classes) (h4 : classes ≤ 8) (h5 : 0 ≤ level) (h6 : level < levels) :
    Calls Tryd.prog 11 #[.int .i64 level, .int .i64 levels, .int .i64 classes] w fun e w' => e = .returned (.int .i64 (level * classes / levels)) ∧ w = w' := by
  have hb := prod_bd h5 (show level ≤ 64 by omega) h3 h4
  obtain ⟨p, hp⟩ : ∃ p, p = level * classes := ⟨_, rfl⟩
  rw [← hp] at hb ⊢
  have hp' := hp.symm
  have hq : 0 ≤ p / levels ∧ p / levels ≤ 512 := ⟨Int.ediv_nonneg hb.1 (by omega), Int.le_trans (Int.ediv_le_self _ hb.1) hb.2⟩
  obtain ⟨hb1, hb2⟩ := hb
  obtain ⟨hq1, hq2⟩ := hq
  have hl0 : (levels == 0) = false := by simp; omega
  clear hp
  go_enter Tryd.func11, Tryd.ntmps11
  go_wp2_with fail
  go_ret
  exact ⟨rfl, rfl⟩

theorem class_any (level levels classes : Int) (w : World) :
    Calls Tryd.prog 11 #[.int .i64 level, .int .i64 levels, .int .i64 classes] w fun e w' => e = .returned (.int .i64 (classI level levels classes)) ∧ w = w' := by
  unfold classI
  split
  · rename_i h
    exact class_in level levels classes w h.1 h.2.1 h.2.2.1 h.2.2.2.1 h.2.2.2.2.1 h.2.2.2.2.2
  · rename_i h
    exact class_out level levels classes w h

/-- The numbers that have a key, and the key. -/
def PackOk (d a t : Int) : Prop := 0 ≤ d ∧ d ≤ 16777215 ∧ 0 ≤ a ∧ a ≤ 16777215 ∧ 0 ≤ t ∧ t ≤ 65535

def packI (d a t : Int) : Int := d * 1099511627776 + a * 65536 + t

theorem or_big (x y p : Nat) (hy : y < 2 ^ p) (hx : 2 ^ p * x < 18446744073709551616) (hy2 : y < 18446744073709551616) : bits BinOp.or IntKind.u64 ((2 ^ p * x : Nat) : Int) (y : Int) = ((2 ^ p * x + y : Nat) : Int) := by
  rw [bits_or_u64_nat _ _ hx hy2, Nat.two_pow_add_eq_or_of_lt hy]

theorem pack_val (d a t : Nat) (hd : d ≤ 16777215) (ha : a ≤ 16777215) (ht : t ≤ 65535) :
    bits BinOp.or IntKind.u64 (bits BinOp.or IntKind.u64 ((d : Int) * 1099511627776) ((a : Int) * 65536)) (t : Int) = packI d a t := by
  rw [show (d : Int) * 1099511627776 = ((2 ^ 40 * d : Nat) : Int) by omega, show (a : Int) * 65536 = ((a * 65536 : Nat) : Int) by omega, or_big d (a * 65536) 40 (by omega) (by omega) (by omega),
    show 2 ^ 40 * d + a * 65536 = 2 ^ 16 * (16777216 * d + a) by omega, or_big (16777216 * d + a) t 16 (by omega) (by omega) (by omega)]
  unfold packI
  omega

theorem tup2 {a b : Int} (h : a = b) : Ending.returned (.tuple #[.int .u64 a, .bool true]) = Ending.returned (.tuple #[.int .u64 b, .bool true]) := by rw [h]

theorem pack_in (d a t : Nat) (w : World) (hd : d ≤ 16777215) (ha : a ≤ 16777215) (ht : t ≤ 65535) :
    Calls Tryd.prog 4 #[.int .i64 d, .int .i64 a, .int .i64 t] w fun e w' => e = .returned (.tuple #[.int .u64 (packI d a t), .bool true]) ∧ w = w' := by
  go_enter Tryd.func4, Tryd.ntmps4
  go_wp2_with fail
  go_ret2
  exact ⟨tup2 (pack_val d a t hd ha ht), rfl⟩

theorem pack_any (d a t : Int) (w : World) (h : PackOk d a t) :
    Calls Tryd.prog 4 #[.int .i64 d, .int .i64 a, .int .i64 t] w fun e w' => e = .returned (.tuple #[.int .u64 (packI d a t), .bool true]) ∧ w = w' := by
  obtain ⟨h1, h2, h3, h4, h5, h6⟩ := h
  obtain ⟨d, rfl⟩ := Int.eq_ofNat_of_zero_le h1
  obtain ⟨a, rfl⟩ := Int.eq_ofNat_of_zero_le h3
  obtain ⟨t, rfl⟩ := Int.eq_ofNat_of_zero_le h5
  exact pack_in d a t w (by omega) (by omega) (by omega)

theorem TabAt.keep {w w' : World} (h : TabAt w) (o : Only [] w w') : TabAt w' := fun j hj => o.keepCell (h j hj) (by simp)

set_option maxHeartbeats 400000 in
theorem awake_any (w : World) (hT : TabAt w) : Calls Tryd.prog 5 #[] w fun e w' => e = .returned (.bool true) ∧ w = w' := by
  have A : Hid (∀ w, Calls Tryd.prog 4 #[.int .i64 1, .int .i64 2, .int .i64 3] w fun e w' => e = .returned (.tuple #[.int .u64 1099511758851, .bool true]) ∧ w = w') := Lib.hid (fun w => pack_any 1 2 3 w (by unfold PackOk; omega))
  have B : Hid (∀ w, Calls Tryd.prog 6 #[.int .u64 44] w fun e w' => e = .returned (.int .i64 5) ∧ w = w') := Lib.hid (fun w => high_any 44 w (by omega))
  have C : Hid (TabAt w → Calls Tryd.prog 7 #[.int .u64 44] w fun e w' => e = .returned (.int .i64 2) ∧ w = w') := Lib.hid (fun h => low_any 44 w (by omega) h)
  have D : Hid (∀ w, Calls Tryd.prog 8 #[.int .u64 44] w fun e w' => e = .returned (.int .i64 3) ∧ w = w') := Lib.hid (fun w => count_any 44 w (by omega))
  have E : Hid (TabAt w → Calls Tryd.prog 9 #[.int .u64 44, .int .i64 1] w fun e w' => e = .returned (.int .i64 3) ∧ w = w') := Lib.hid (fun h => nth_any 44 1 w (by omega) h (by omega))
  have F : Hid (∀ w, Calls Tryd.prog 10 #[.int .i64 2, .int .i64 5] w fun e w' => e = .returned (.int .u64 28) ∧ w = w') := Lib.hid (fun w => span_any 2 5 w (by omega) (by omega) (by omega))
  have G : Hid (∀ w, Calls Tryd.prog 11 #[.int .i64 5, .int .i64 8, .int .i64 4] w fun e w' => e = .returned (.int .i64 2) ∧ w = w') := Lib.hid (fun w => class_any 5 8 4 w)
  have HT := Lib.hid hT
  clear hT
  go_enter Tryd.func5, Tryd.ntmps5
  go_wp2_with fail
  refine (A.out _).mono ?_; rintro e w1 ⟨rfl, rfl⟩
  go_wp2_with fail
  refine (B.out _).mono ?_; rintro e w1 ⟨rfl, rfl⟩
  go_wp2_with fail
  refine (C.out HT.out).mono ?_; rintro e w1 ⟨rfl, rfl⟩
  go_wp2_with fail
  refine (D.out _).mono ?_; rintro e w1 ⟨rfl, rfl⟩
  go_wp2_with fail
  refine (E.out HT.out).mono ?_; rintro e w1 ⟨rfl, rfl⟩
  go_wp2_with fail
  refine (F.out _).mono ?_; rintro e w1 ⟨rfl, rfl⟩
  go_wp2_with fail
  refine (G.out _).mono ?_; rintro e w1 ⟨rfl, rfl⟩
  go_wp2_with fail
  go_ret
  exact ⟨rfl, rfl⟩

theorem tmod_bd (d : Int) {n : Int} (h : 1 ≤ n) : -n < d.tmod n ∧ d.tmod n < n := by
  rw [Int.tmod_eq_emod]
  have h1 := Int.emod_nonneg d (show n ≠ 0 by omega)
  have h2 := Int.emod_lt_of_pos d (show 0 < n by omega)
  split <;> omega
end Go.Proofs.YtdbbnoffoaldfaaDoor
