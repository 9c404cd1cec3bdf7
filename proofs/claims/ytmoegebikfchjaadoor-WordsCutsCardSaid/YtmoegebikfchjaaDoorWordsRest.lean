/- What Span, Class, Pack and Unpack compute, the program's and the reference's. -/
import Derived.Test.YtmoegebikfchjaaDoorWordsRef
import Derived.Deep.QuietTactic
import Derived.BigQuiet
namespace Go.Proofs.YtmoegebikfchjaaDoor
open Go.RowKit
set_option linter.unusedVariables false

/-- The word whose bits from l to h - 1 are 1. -/
def spanN (l h : Int) : Nat := 2 ^ (min h 64).toNat - 2 ^ (min (max l 0) (min h 64)).toNat

/-- The same, bit by bit. -/
def spanTo (l h : Int) : Nat → Nat
  | 0 => 0
  | k + 1 => spanTo l h k + (if l ≤ (k : Int) ∧ (k : Int) < h then 2 ^ k else 0)
theorem spanTo_succ (l h : Int) (k : Nat) : spanTo l h (k + 1) = spanTo l h k + (if l ≤ (k : Int) ∧ (k : Int) < h then 2 ^ k else 0) := rfl

theorem spanTo_eq (l h : Int) (k : Nat) : spanTo l h k = 2 ^ (min h k).toNat - 2 ^ (min (max l 0) (min h k)).toNat := by
  induction k with
  | zero =>
    have h1 : (min h ((0 : Nat) : Int)).toNat = 0 := by omega
    have h2 : (min (max l 0) (min h ((0 : Nat) : Int))).toNat = 0 := by omega
    rw [h1, h2]; rfl
  | succ k ih =>
    rw [spanTo_succ, ih]
    by_cases hc : l ≤ (k : Int) ∧ (k : Int) < h
    · rw [if_pos hc]
      have h1 : (min h ((k + 1 : Nat) : Int)).toNat = k + 1 := by omega
      have h2 : (min h (k : Int)).toNat = k := by omega
      have h3 : (min (max l 0) (min h ((k + 1 : Nat) : Int))).toNat = (max l 0).toNat := by omega
      have h4 : (min (max l 0) (min h (k : Int))).toNat = (max l 0).toNat := by omega
      rw [h1, h2, h3, h4, Nat.pow_succ]
      have : 2 ^ (max l 0).toNat ≤ 2 ^ k := Nat.pow_le_pow_right (by decide) (by omega)
      omega
    · rw [if_neg hc, Nat.add_zero]
      by_cases hh : (k : Int) < h
      · have h1 : (min (max l 0) (min h ((k + 1 : Nat) : Int))).toNat = (min h ((k + 1 : Nat) : Int)).toNat := by omega
        have h2 : (min (max l 0) (min h (k : Int))).toNat = (min h (k : Int)).toNat := by omega
        rw [h1, h2, Nat.sub_self, Nat.sub_self]
      · have h1 : min h ((k + 1 : Nat) : Int) = h := by omega
        have h2 : min h (k : Int) = h := by omega
        rw [h1, h2]

theorem spanTo_64 (l h : Int) : spanTo l h 64 = spanN l h := spanTo_eq l h 64

theorem spanTo_lt (l h : Int) (k : Nat) : spanTo l h k < 2 ^ k := by
  induction k with
  | zero => simp [spanTo]
  | succ k ih => rw [spanTo_succ, Nat.pow_succ]; split <;> omega

theorem spanN_lt (l h : Int) : spanN l h < 18446744073709551616 := by rw [← spanTo_64]; exact spanTo_lt l h 64

theorem refSpan_any (l h : Int) (w : World) :
    Calls Tryd.prog 20 #[.int .i64 l, .int .i64 h] w fun e w' => e = .returned (.int .u64 (spanN l h)) ∧ w = w' := by
  obtain ⟨r, hr⟩ : ∃ r, r = spanN l h := ⟨_, rfl⟩
  rw [← hr]
  have HR := Lib.hid hr
  clear hr
  go_enter Tryd.func20, Tryd.ntmps20
  go_wp2_with fail
  go_loop [5, 6] (fun y t => ∃ (k y' : Nat), k ≤ 64 ∧ t = .int .i64 k ∧ y = .int .u64 y' ∧ y' = spanTo l h k) (fun _ t => 64 - (intOf t).toNat)
  case atStart => exact ⟨0, 0, by omega, rfl, rfl, rfl⟩
  case round =>
    obtain ⟨k, y, hk, rfl, rfl, hy⟩ := hrel
    have HY := Lib.hid hy
    clear hy
    by_cases hk0 : k < 64
    · have A := Lib.hid (power_any k w hk0)
      have HS := Lib.hid (spanTo_succ l h k)
      have hlt := pow_lt64 hk0
      have hl2 := spanTo_lt l h (k + 1)
      have hl3 : spanTo l h (k + 1) < 18446744073709551616 := Nat.lt_of_lt_of_le hl2 (by have := Nat.pow_le_pow_right (n := 2) (by omega) (show k + 1 ≤ 64 by omega); simpa using this)
      have HL := Lib.hid hl3
      clear hl2 hl3
      obtain ⟨p, hp⟩ : ∃ p, p = 2 ^ k := ⟨_, rfl⟩
      rw [← hp] at A HS hlt
      clear hp
      by_cases h1 : l ≤ (k : Int)
      · by_cases h2 : (k : Int) < h
        · have e1 : IntKind.u64.wrap ((y : Int) + (p : Int)) = ((y + p : Nat) : Int) := by
            rw [← Int.natCast_add, wrap_u64_nat _ (by have h3 := HS.out; have h4 := HL.out; rw [if_pos ⟨h1, h2⟩, ← HY.out] at h3; omega)]
          have HE : Hid (y + p = spanTo l h (k + 1)) := Lib.hid (by rw [HS.out, if_pos ⟨h1, h2⟩, HY.out])
          clear HS hlt
          go_wp2_with fail
          refine A.out.mono ?_; rintro e w1 ⟨rfl, rfl⟩
          go_wp2_with fail
          go_round
          case rel => exact ⟨k + 1, y + p, by omega, by go_num, rfl, HE.out⟩
          case measure => simp [intOf]; omega
        · have HE : Hid (y = spanTo l h (k + 1)) := Lib.hid (by rw [HS.out, if_neg (fun e => h2 e.2), HY.out]; rfl)
          clear HS hlt
          go_wp2_with fail
          go_round
          case rel => exact ⟨k + 1, y, by omega, by go_num, rfl, HE.out⟩
          case measure => simp [intOf]; omega
      · have HE : Hid (y = spanTo l h (k + 1)) := Lib.hid (by rw [HS.out, if_neg (fun e => h1 e.1), HY.out]; rfl)
        clear HS hlt
        go_wp2_with fail
        go_round
        case rel => exact ⟨k + 1, y, by omega, by go_num, rfl, HE.out⟩
        case measure => simp [intOf]; omega
    · obtain rfl : k = 64 := by omega
      go_wp2_with fail
      go_ret
      exact ⟨ret_int (by rw [HR.out, HY.out, spanTo_64]), rfl⟩

theorem ones_shift : ∀ n : Fin 65, 18446744073709551615 / 2 ^ (64 - n.val) = 2 ^ n.val - 1 := by decide +kernel

theorem span_val (l h : Int) (hlt : max l 0 < min h 64) : IntKind.u64.wrap (18446744073709551615 / 2 ^ (64 - (min h 64 - max l 0)).toNat * 2 ^ (max l 0).toNat) = ((spanN l h : Nat) : Int) := by
  obtain ⟨a, ha⟩ : ∃ a : Nat, max l 0 = a := ⟨(max l 0).toNat, by omega⟩
  obtain ⟨b, hb⟩ : ∃ b : Nat, min h 64 = b := ⟨(min h 64).toNat, by omega⟩
  have hab : a < b := by omega
  have hb64 : b ≤ 64 := by omega
  have hs : spanN l h = 2 ^ b - 2 ^ a := by
    unfold spanN
    rw [ha, hb, show (min (a : Int) (b : Int)) = a by omega, Int.toNat_natCast, Int.toNat_natCast]
  have e := ones_shift ⟨b - a, by omega⟩
  simp only at e
  rw [hs, ha, hb, show (64 - ((b : Int) - (a : Int))).toNat = 64 - (b - a) by omega, Int.toNat_natCast]
  have e2 : (18446744073709551615 : Int) / 2 ^ (64 - (b - a)) * 2 ^ a = ((18446744073709551615 / 2 ^ (64 - (b - a)) * 2 ^ a : Nat) : Int) := by
    rw [Int.natCast_mul, Int.natCast_ediv, Int.natCast_pow, Int.natCast_pow]; rfl
  have e3 : (2 ^ (b - a) - 1) * 2 ^ a = 2 ^ b - 2 ^ a := by
    rw [Nat.sub_mul, ← Nat.pow_add, Nat.one_mul, show b - a + a = b by omega]
  have e4 : 2 ^ b ≤ 2 ^ 64 := Nat.pow_le_pow_right (by decide) hb64
  have e5 := Nat.two_pow_pos a
  have e6 : 2 ^ a < 2 ^ b := Nat.pow_lt_pow_right (by decide) hab
  rw [e2, e, e3, wrap_u64_nat _ (by omega)]

theorem span_any (l h : Int) (w : World) (hl : -9223372036854775808 ≤ l) (hl2 : l ≤ 9223372036854775807) (hh : -9223372036854775808 ≤ h) :
    Calls Tryd.prog 19 #[.int .i64 l, .int .i64 h] w fun e w' => e = .returned (.int .u64 (spanN l h)) ∧ w = w' := by
  go_enter Tryd.func19, Tryd.ntmps19
  go_wp2_with fail
  · go_ret
    refine ⟨ret_int ?_, rfl⟩
    unfold spanN
    rw [show min (max l 0) (min h 64) = min h 64 by omega]
    simp
  · go_ret
    exact ⟨ret_int (span_val l h (by assumption)), rfl⟩

/-- The class of a level. -/
def classI (level levels classes : Int) : Int := if 1 ≤ levels ∧ levels ≤ 64 ∧ 1 ≤ classes ∧ classes ≤ 8 ∧ 0 ≤ level ∧ level < levels then level * classes / levels else 0

theorem class_out (level levels classes : Int) (w : World) (h : ¬ (1 ≤ levels ∧ levels ≤ 64 ∧ 1 ≤ classes ∧ classes ≤ 8 ∧ 0 ≤ level ∧ level < levels)) :
    Calls Tryd.prog 21 #[.int .i64 level, .int .i64 levels, .int .i64 classes] w fun e w' => e = .returned (.int .i64 0) ∧ w = w' := by
  by_cases h1 : levels < 1
  · clear h
    go_enter Tryd.func21, Tryd.ntmps21
    go_wp2_with fail
    go_ret
    exact ⟨rfl, rfl⟩
  · by_cases h2 : 64 < levels
    · clear h
      go_enter Tryd.func21, Tryd.ntmps21
      go_wp2_with fail
      go_ret
      exact ⟨rfl, rfl⟩
    · by_cases h3 : classes < 1
      · clear h
        go_enter Tryd.func21, Tryd.ntmps21
        go_wp2_with fail
        go_ret
        exact ⟨rfl, rfl⟩
      · by_cases h4 : 8 < classes
        · clear h
          go_enter Tryd.func21, Tryd.ntmps21
          go_wp2_with fail
          go_ret
          exact ⟨rfl, rfl⟩
        · by_cases h5 : level < 0
          · clear h
            go_enter Tryd.func21, Tryd.ntmps21
            go_wp2_with fail
            go_ret
            exact ⟨rfl, rfl⟩
          · have h6 : levels ≤ level := by omega
            clear h
            go_enter Tryd.func21, Tryd.ntmps21
            go_wp2_with fail
            go_ret
            exact ⟨rfl, rfl⟩

theorem prod_bd {a b : Int} (h1 : 0 ≤ a) (h2 : a ≤ 64) (h3 : 1 ≤ b) (h4 : b ≤ 8) : 0 ≤ a * b ∧ a * b ≤ 512 := by
  have e1 := Int.mul_nonneg h1 (show 0 ≤ b by omega)
  have e2 := Int.mul_le_mul h2 h4 (by omega) (by omega)
  omega

theorem class_in (level levels classes : Int) (w : World) (h1 : 1 ≤ levels) (h2 : levels ≤ 64) (h3 : 1 ≤ classes) (h4 : classes ≤ 8) (h5 : 0 ≤ level) (h6 : level < levels) :
    Calls Tryd.prog 21 #[.int .i64 level, .int .i64 levels, .int .i64 classes] w fun e w' => e = .returned (.int .i64 (level * classes / levels)) ∧ w = w' := by
  have hb := prod_bd h5 (show level ≤ 64 by omega) h3 h4
  obtain ⟨p, hp⟩ : ∃ p, p = level * classes := ⟨_, rfl⟩
  rw [← hp] at hb ⊢
  have hp' := hp.symm
  have hq : 0 ≤ p / levels ∧ p / levels ≤ 512 := ⟨Int.ediv_nonneg hb.1 (by omega), Int.le_trans (Int.ediv_le_self _ hb.1) hb.2⟩
  obtain ⟨hb1, hb2⟩ := hb
  obtain ⟨hq1, hq2⟩ := hq
  have hl0 : (levels == 0) = false := by simp; omega
  clear hp
  go_enter Tryd.func21, Tryd.ntmps21
  go_wp2_with fail
  go_ret
  exact ⟨rfl, rfl⟩

theorem class_any (level levels classes : Int) (w : World) :
    Calls Tryd.prog 21 #[.int .i64 level, .int .i64 levels, .int .i64 classes] w fun e w' => e = .returned (.int .i64 (classI level levels classes)) ∧ w = w' := by
  unfold classI
  split
  · rename_i h
    exact class_in level levels classes w h.1 h.2.1 h.2.2.1 h.2.2.2.1 h.2.2.2.2.1 h.2.2.2.2.2
  · rename_i h
    exact class_out level levels classes w h

theorem refClass_out (level levels classes : Int) (w : World) (h : ¬ (1 ≤ levels ∧ levels ≤ 64 ∧ 1 ≤ classes ∧ classes ≤ 8 ∧ 0 ≤ level ∧ level < levels)) :
    Calls Tryd.prog 22 #[.int .i64 level, .int .i64 levels, .int .i64 classes] w fun e w' => e = .returned (.int .i64 0) ∧ w = w' := by
  by_cases h1 : levels < 1
  · clear h
    go_enter Tryd.func22, Tryd.ntmps22
    go_wp2_with fail
    all_goals go_ret
    all_goals exact ⟨rfl, rfl⟩
  · by_cases h2 : 64 < levels
    · clear h
      go_enter Tryd.func22, Tryd.ntmps22
      go_wp2_with fail
      all_goals go_ret
      all_goals exact ⟨rfl, rfl⟩
    · by_cases h3 : classes < 1
      · clear h
        go_enter Tryd.func22, Tryd.ntmps22
        go_wp2_with fail
        all_goals go_ret
        all_goals exact ⟨rfl, rfl⟩
      · by_cases h4 : 8 < classes
        · clear h
          go_enter Tryd.func22, Tryd.ntmps22
          go_wp2_with fail
          all_goals go_ret
          all_goals exact ⟨rfl, rfl⟩
        · by_cases h5 : level < 0
          · clear h
            go_enter Tryd.func22, Tryd.ntmps22
            go_wp2_with fail
            all_goals go_ret
            all_goals exact ⟨rfl, rfl⟩
          · have h6 : levels ≤ level := by omega
            clear h
            go_enter Tryd.func22, Tryd.ntmps22
            go_wp2_with fail
            all_goals go_ret
            all_goals exact ⟨rfl, rfl⟩

theorem refClass_in (level levels classes : Int) (w : World) (h1 : 1 ≤ levels) (h2 : levels ≤ 64) (h3 : 1 ≤ classes) (h4 : classes ≤ 8) (h5 : 0 ≤ level) (h6 : level < levels) :
    Calls Tryd.prog 22 #[.int .i64 level, .int .i64 levels, .int .i64 classes] w fun e w' => e = .returned (.int .i64 (level * classes / levels)) ∧ w = w' := by
  have hb := prod_bd h5 (show level ≤ 64 by omega) h3 h4
  obtain ⟨p, hp⟩ : ∃ p, p = level * classes := ⟨_, rfl⟩
  rw [← hp] at hb ⊢
  have hp' := hp.symm
  have hq : 0 ≤ p / levels ∧ p / levels ≤ 512 := ⟨Int.ediv_nonneg hb.1 (by omega), Int.le_trans (Int.ediv_le_self _ hb.1) hb.2⟩
  obtain ⟨hb1, hb2⟩ := hb
  obtain ⟨hq1, hq2⟩ := hq
  have hl0 : (levels == 0) = false := by simp; omega
  clear hp
  go_enter Tryd.func22, Tryd.ntmps22
  go_wp2_with fail
  go_ret
  exact ⟨rfl, rfl⟩

theorem refClass_any (level levels classes : Int) (w : World) :
    Calls Tryd.prog 22 #[.int .i64 level, .int .i64 levels, .int .i64 classes] w fun e w' => e = .returned (.int .i64 (classI level levels classes)) ∧ w = w' := by
  unfold classI
  split
  · rename_i h
    exact refClass_in level levels classes w h.1 h.2.1 h.2.2.1 h.2.2.2.1 h.2.2.2.2.1 h.2.2.2.2.2
  · rename_i h
    exact refClass_out level levels classes w h

/-- The numbers that have a key, and the key. -/
def PackOk (d a t : Int) : Prop := 0 ≤ d ∧ d ≤ 16777215 ∧ 0 ≤ a ∧ a ≤ 16777215 ∧ 0 ≤ t ∧ t ≤ 65535
def packI (d a t : Int) : Int := d * 1099511627776 + a * 65536 + t

theorem pack_out (d a t : Int) (w : World) (h : ¬ PackOk d a t) :
    Calls Tryd.prog 23 #[.int .i64 d, .int .i64 a, .int .i64 t] w fun e w' => e = .returned (.tuple #[.int .u64 0, .bool false]) ∧ w = w' := by
  unfold PackOk at h
  by_cases h1 : d < 0
  · clear h
    go_enter Tryd.func23, Tryd.ntmps23
    go_wp2_with fail
    go_ret2
    exact ⟨rfl, rfl⟩
  by_cases h2 : 16777215 < d
  · clear h
    go_enter Tryd.func23, Tryd.ntmps23
    go_wp2_with fail
    go_ret2
    exact ⟨rfl, rfl⟩
  by_cases h3 : a < 0
  · clear h
    go_enter Tryd.func23, Tryd.ntmps23
    go_wp2_with fail
    go_ret2
    exact ⟨rfl, rfl⟩
  by_cases h4 : 16777215 < a
  · clear h
    go_enter Tryd.func23, Tryd.ntmps23
    go_wp2_with fail
    go_ret2
    exact ⟨rfl, rfl⟩
  by_cases h5 : t < 0
  · clear h
    go_enter Tryd.func23, Tryd.ntmps23
    go_wp2_with fail
    go_ret2
    exact ⟨rfl, rfl⟩
  have h6 : 65535 < t := by omega
  clear h
  go_enter Tryd.func23, Tryd.ntmps23
  go_wp2_with fail
  go_ret2
  exact ⟨rfl, rfl⟩

theorem refPack_out (d a t : Int) (w : World) (h : ¬ PackOk d a t) :
    Calls Tryd.prog 24 #[.int .i64 d, .int .i64 a, .int .i64 t] w fun e w' => e = .returned (.tuple #[.int .u64 0, .bool false]) ∧ w = w' := by
  unfold PackOk at h
  by_cases h1 : d < 0
  · clear h
    go_enter Tryd.func24, Tryd.ntmps24
    go_wp2_with fail
    go_ret2
    exact ⟨rfl, rfl⟩
  by_cases h2 : 16777215 < d
  · clear h
    go_enter Tryd.func24, Tryd.ntmps24
    go_wp2_with fail
    go_ret2
    exact ⟨rfl, rfl⟩
  by_cases h3 : a < 0
  · clear h
    go_enter Tryd.func24, Tryd.ntmps24
    go_wp2_with fail
    go_ret2
    exact ⟨rfl, rfl⟩
  by_cases h4 : 16777215 < a
  · clear h
    go_enter Tryd.func24, Tryd.ntmps24
    go_wp2_with fail
    go_ret2
    exact ⟨rfl, rfl⟩
  by_cases h5 : t < 0
  · clear h
    go_enter Tryd.func24, Tryd.ntmps24
    go_wp2_with fail
    go_ret2
    exact ⟨rfl, rfl⟩
  have h6 : 65535 < t := by omega
  clear h
  go_enter Tryd.func24, Tryd.ntmps24
  go_wp2_with fail
  go_ret2
  exact ⟨rfl, rfl⟩

theorem or_big (x y p : Nat) (hy : y < 2 ^ p) (hx : 2 ^ p * x < 18446744073709551616) (hy2 : y < 18446744073709551616) : bits BinOp.or IntKind.u64 ((2 ^ p * x : Nat) : Int) (y : Int) = ((2 ^ p * x + y : Nat) : Int) := by
  rw [bits_or_u64_nat _ _ hx hy2, Nat.two_pow_add_eq_or_of_lt hy]

theorem pack_val (d a t : Nat) (hd : d ≤ 16777215) (ha : a ≤ 16777215) (ht : t ≤ 65535) :
    bits BinOp.or IntKind.u64 (bits BinOp.or IntKind.u64 ((d : Int) * 1099511627776) ((a : Int) * 65536)) (t : Int) = packI d a t := by
  rw [show (d : Int) * 1099511627776 = ((2 ^ 40 * d : Nat) : Int) by omega, show (a : Int) * 65536 = ((a * 65536 : Nat) : Int) by omega, or_big d (a * 65536) 40 (by omega) (by omega) (by omega),
    show 2 ^ 40 * d + a * 65536 = 2 ^ 16 * (16777216 * d + a) by omega, or_big (16777216 * d + a) t 16 (by omega) (by omega) (by omega)]
  unfold packI
  omega

theorem tup2 {a b : Int} (h : a = b) : Ending.returned (.tuple #[.int .u64 a, .bool true]) = Ending.returned (.tuple #[.int .u64 b, .bool true]) := by rw [h]
theorem tup3 {a b c a' b' c' : Int} (h1 : a = a') (h2 : b = b') (h3 : c = c') : Ending.returned (.tuple #[.int .i64 a, .int .i64 b, .int .i64 c]) = Ending.returned (.tuple #[.int .i64 a', .int .i64 b', .int .i64 c']) := by rw [h1, h2, h3]

theorem pack_in (d a t : Nat) (w : World) (hd : d ≤ 16777215) (ha : a ≤ 16777215) (ht : t ≤ 65535) :
    Calls Tryd.prog 23 #[.int .i64 d, .int .i64 a, .int .i64 t] w fun e w' => e = .returned (.tuple #[.int .u64 (packI d a t), .bool true]) ∧ w = w' := by
  go_enter Tryd.func23, Tryd.ntmps23
  go_wp2_with fail
  go_ret2
  exact ⟨tup2 (pack_val d a t hd ha ht), rfl⟩

theorem refPack_in (d a t : Nat) (w : World) (hd : d ≤ 16777215) (ha : a ≤ 16777215) (ht : t ≤ 65535) :
    Calls Tryd.prog 24 #[.int .i64 d, .int .i64 a, .int .i64 t] w fun e w' => e = .returned (.tuple #[.int .u64 (packI d a t), .bool true]) ∧ w = w' := by
  have A : ∀ w, Hid (Calls Tryd.prog 31 #[.int .i64 24] w fun e w' => e = .returned (.int .u64 16777216) ∧ w = w') := fun w => Lib.hid (power_any 24 w (by omega))
  have B : ∀ w, Hid (Calls Tryd.prog 31 #[.int .i64 16] w fun e w' => e = .returned (.int .u64 65536) ∧ w = w') := fun w => Lib.hid (power_any 16 w (by omega))
  go_enter Tryd.func24, Tryd.ntmps24
  go_wp2_with fail
  refine (A _).out.mono ?_; rintro e w1 ⟨rfl, rfl⟩
  go_wp2_with fail
  refine (B _).out.mono ?_; rintro e w1 ⟨rfl, rfl⟩
  go_wp2_with fail
  go_ret2
  refine ⟨tup2 (a := ((d : Int) * 16777216 + a) * 65536 + t) ?_, rfl⟩
  unfold packI
  omega

theorem pack_any (d a t : Int) (w : World) (h : PackOk d a t) :
    Calls Tryd.prog 23 #[.int .i64 d, .int .i64 a, .int .i64 t] w fun e w' => e = .returned (.tuple #[.int .u64 (packI d a t), .bool true]) ∧ w = w' := by
  obtain ⟨h1, h2, h3, h4, h5, h6⟩ := h
  obtain ⟨d, rfl⟩ := Int.eq_ofNat_of_zero_le h1
  obtain ⟨a, rfl⟩ := Int.eq_ofNat_of_zero_le h3
  obtain ⟨t, rfl⟩ := Int.eq_ofNat_of_zero_le h5
  exact pack_in d a t w (by omega) (by omega) (by omega)
theorem refPack_any (d a t : Int) (w : World) (h : PackOk d a t) :
    Calls Tryd.prog 24 #[.int .i64 d, .int .i64 a, .int .i64 t] w fun e w' => e = .returned (.tuple #[.int .u64 (packI d a t), .bool true]) ∧ w = w' := by
  obtain ⟨h1, h2, h3, h4, h5, h6⟩ := h
  obtain ⟨d, rfl⟩ := Int.eq_ofNat_of_zero_le h1
  obtain ⟨a, rfl⟩ := Int.eq_ofNat_of_zero_le h3
  obtain ⟨t, rfl⟩ := Int.eq_ofNat_of_zero_le h5
  exact refPack_in d a t w (by omega) (by omega) (by omega)

/-- The three numbers of a word. -/
def un1 (k : Int) : Int := k / 1099511627776
def un2 (k : Int) : Int := k / 65536 % 16777216
def un3 (k : Int) : Int := k % 65536

theorem unpack_any (k : Nat) (w : World) (hk : k < 18446744073709551616) :
    Calls Tryd.prog 25 #[.int .u64 k] w fun e w' => e = .returned (.tuple #[.int .i64 (un1 k), .int .i64 (un2 k), .int .i64 (un3 k)]) ∧ w = w' := by
  have hk' := Lib.hid hk
  have e1 : bits BinOp.and IntKind.u64 ((k : Int) / 65536) 16777215 = un2 k := by
    rw [show (k : Int) / 65536 = ((k / 65536 : Nat) : Int) by omega, show (16777215 : Int) = ((2 ^ 24 - 1 : Nat) : Int) from rfl, bits_and_u64_nat _ _ (by omega) (by omega), Nat.and_two_pow_sub_one_eq_mod]
    unfold un2; omega
  have e2 : bits BinOp.and IntKind.u64 (k : Int) 65535 = un3 k := by
    rw [show (65535 : Int) = ((2 ^ 16 - 1 : Nat) : Int) from rfl, bits_and_u64_nat _ _ (by omega) (by omega), Nat.and_two_pow_sub_one_eq_mod]
    unfold un3; omega
  have h1 : 0 ≤ un2 k ∧ un2 k ≤ 16777215 := by unfold un2; omega
  have h2 : 0 ≤ un3 k ∧ un3 k ≤ 65535 := by unfold un3; omega
  obtain ⟨h11, h12⟩ := h1
  obtain ⟨h21, h22⟩ := h2
  clear hk
  go_enter Tryd.func25, Tryd.ntmps25
  go_wp2_with fail
  go_ret3
  refine ⟨tup3 (a := wrap64 ((k : Int) / 1099511627776)) ?_ rfl rfl, rfl⟩
  have := hk'.out
  unfold wrap64 un1; omega

set_option maxHeartbeats 400000 in
theorem refUnpack_any (k : Nat) (w : World) (hk : k < 18446744073709551616) :
    Calls Tryd.prog 26 #[.int .u64 k] w fun e w' => e = .returned (.tuple #[.int .i64 (un1 k), .int .i64 (un2 k), .int .i64 (un3 k)]) ∧ Only [] w w' := by
  have hk' := Lib.hid hk
  clear hk
  have A : ∀ w, Hid (Calls Tryd.prog 31 #[.int .i64 40] w fun e w' => e = .returned (.int .u64 1099511627776) ∧ w' = w) := fun w => Lib.hid ((power_any 40 w (by omega)).mono fun _ _ h => ⟨h.1, h.2.symm⟩)
  have B : ∀ w, Hid (Calls Tryd.prog 31 #[.int .i64 16] w fun e w' => e = .returned (.int .u64 65536) ∧ w' = w) := fun w => Lib.hid ((power_any 16 w (by omega)).mono fun _ _ h => ⟨h.1, h.2.symm⟩)
  have C : ∀ w, Hid (Calls Tryd.prog 31 #[.int .i64 24] w fun e w' => e = .returned (.int .u64 16777216) ∧ w' = w) := fun w => Lib.hid ((power_any 24 w (by omega)).mono fun _ _ h => ⟨h.1, h.2.symm⟩)
  go_enter Tryd.func26, Tryd.ntmps26
  go_wp2_with fail
  go_quiet ((first | (go_at_call 31; (with_reducible exact Calls.quiet_of_same (A (w.drewN _)).out)) | (go_at_call 31; (with_reducible exact Calls.quiet_of_same (B (w.drewN _)).out)) | (go_at_call 31; (with_reducible exact Calls.quiet_of_same (C (w.drewN _)).out))))
  go_wp2_with fail
  go_ret3
  have hk := hk'.out
  refine ⟨tup3 (a := wrap64 (IntKind.u64.wrap ((k : Int) / 1099511627776))) (b := wrap64 ((IntKind.u64.wrap ((k : Int) / 65536)).tmod 16777216)) (c := (k : Int) % 65536) ?_ ?_ rfl, (Only.refl _ _).drewN _⟩
  · rw [show (k : Int) / 1099511627776 = ((k / 1099511627776 : Nat) : Int) by omega, wrap_u64_nat _ (by omega)]
    unfold wrap64 un1; omega
  · rw [show (k : Int) / 65536 = ((k / 65536 : Nat) : Int) by omega, wrap_u64_nat _ (by omega), Int.tmod_eq_emod_of_nonneg (by omega)]
    unfold wrap64 un2; omega
end Go.Proofs.YtmoegebikfchjaaDoor
