/- Words of 64 bits in plain Lean: their bits, how many they are, the n-th one; masks and ranges of bits. No program in sight. -/
import Derived.Lib.BitFns
import Derived.Lib.TrailingZeros
import Derived.Laws.Entries
import Derived.Test.YtncnepmgmphanaaGreatDoorRows
import Derived.Lib.Strings
import Derived.Lib.Slices
import Derived.Lib.Small
import Derived.Lib.Walk
import Derived.Test.YtncnepmgmphanaaGreatDoorMg00
import Derived.Laws.Bits64b
import Derived.WalkSpells
import Derived.IntWalk
import Derived.Test.YtncnepmgmphanaaGreatDoorProg
import Derived.Below
import Derived.Deep.QuietTactic
import Derived.BigQuiet
import Derived.Test.YtncnepmgmphanaaGreatDoorMg04
import Derived.Deep.RegionHeld3
set_option linter.unusedVariables false
set_option linter.unusedSimpArgs false
set_option linter.unusedSectionVars false
namespace Go.Proofs.YtncnepmgmphanaaGreatDoor
section
open Go
def fe (x : Nat) : Nat → Nat
 | 0 => 0
 | k + 1 => fe x k + (if x.testBit k then 1 else 0)
def cnt (x : Nat) : Nat := fe x 64
theorem rQ (x k : Nat) : fe x (k + 1) = fe x k + (if x.testBit k then 1 else 0) := rfl
theorem adn (x k : Nat) : fe x k ≤ k := by
 induction k with
 | zero => exact Nat.le_refl _
 | succ k ih => rw [rQ]; split <;> omega
theorem Ep (x : Nat) {i j : Nat} (h : i ≤ j) : fe x i ≤ fe x j := by
 induction j with
 | zero => obtain rfl : i = 0 := by omega
           exact Nat.le_refl _
 | succ j ih =>
   by_cases e : i = j + 1
   · subst e; exact Nat.le_refl _
   · have := ih (by omega); rw [rQ]; omega
def rep (m : Nat) : Nat → Nat
 | 0 => 0
 | n + 1 => m + 256 * rep m n
def s1 (n x : Nat) : Nat := (x / 2 &&& rep 85 n) + (x &&& rep 85 n)
def s2 (n x : Nat) : Nat := (x / 4 &&& rep 51 n) + (x &&& rep 51 n)
def s3 (n x : Nat) : Nat := (x / 16 + x) &&& rep 15 n
def cb : Nat → Nat → Nat
 | 0, _ => 0
 | n + 1, x => fe (x % 256) 8 + 256 * cb n (x / 256)
def ones (x : Nat) : Nat :=
 let a := s3 8 (s2 8 (s1 8 x))
 let b := a + a / 256
 let c := b + b / 65536
 let d := c + c / 4294967296
 d % 128
end
section
open Go
def LA (x n k : Nat) : Prop := k < 64 ∧ x.testBit k = true ∧ fe x k = n
theorem OG {x n k k' : Nat} (h : LA x n k) (h' : LA x n k') : k = k' := by
 have up : ∀ a b, a < b → x.testBit a = true → fe x a < fe x b := fun a b hab ha => by
   have h1 : fe x (a + 1) = fe x a + 1 := by
     rw [show fe x (a + 1) = fe x a + (if x.testBit a then 1 else 0) from rfl, if_pos ha]
   have h2 := Ep x (show a + 1 ≤ b by omega)
   omega
 obtain ⟨_, h2, h3⟩ := h
 obtain ⟨_, h5, h6⟩ := h'
 rcases Nat.lt_trichotomy k k' with h7 | h7 | h7
 · have := up _ _ h7 h2; omega
 · exact h7
 · have := up _ _ h7 h5; omega
theorem Pt {x n : Nat} (k : Nat) (hk : k ≤ 64) (h : n < fe x k) : ∃ i, i < k ∧ LA x n i := by
 induction k with
 | zero => simp [fe] at h
 | succ k ih =>
   by_cases h1 : n < fe x k
   · obtain ⟨i, h2, h3⟩ := ih (by omega) h1
     exact ⟨i, by omega, h3⟩
   · rw [rQ] at h
     have hb : x.testBit k = true := by
       cases hb : x.testBit k with
       | true => rfl
       | false => rw [hb] at h; simp at h; omega
     rw [hb] at h
     simp at h
     exact ⟨k, by omega, by omega, hb, by omega⟩
def wH (x : Nat) (n : Int) : Int :=
 match (List.range 64).find? (fun k => x.testBit k && decide ((fe x k : Int) = n)) with
 | some k => k
 | none => -1
theorem agH {x n k : Nat} (h : LA x n k) : wH x (n : Int) = (k : Int) := by
 unfold wH
 split
 · rename_i k' hf
   have h1 := List.find?_some hf
   have h2 := List.mem_of_find?_eq_some hf
   simp at h1 h2
   rw [OG ⟨h2, h1.1, by omega⟩ h]
 · rename_i hf
   rw [List.find?_eq_none] at hf
   have := hf k (by simpa using h.1)
   simp [h.2.1, h.2.2] at this
theorem aai {x : Nat} {n : Int} (h : n < 0 ∨ (cnt x : Int) ≤ n) : wH x n = -1 := by
 unfold wH
 split
 · rename_i k hf
   have h1 := List.find?_some hf
   have h2 := List.mem_of_find?_eq_some hf
   simp at h1 h2
   have h3 : fe x (k + 1) = fe x k + 1 := by
     rw [show fe x (k + 1) = fe x k + (if x.testBit k then 1 else 0) from rfl, if_pos h1.1]
   have h4 := Ep x (show k + 1 ≤ 64 by omega)
   unfold cnt at h
   omega
 · rfl
theorem aiT {x k : Nat} (h : x < 18446744073709551616) (hb : x.testBit k = true) : k < 64 := by
 rcases Nat.lt_or_ge k 64 with h1 | h1
 · exact h1
 · rw [Nat.testBit_lt_two_pow (Nat.lt_of_lt_of_le (show x < 2 ^ 64 from h) (Nat.pow_le_pow_right (by decide) h1))] at hb
   cases hb
def JA (x : Nat) : Int := (Lib.bitLen x : Int) - 1
theorem aiD {x k : Nat} (hb : x.testBit k = true) (hn : ∀ j, k < j → x.testBit j = false) (h : x < 18446744073709551616) : JA x = k := by
 have h1 : 2 ^ k ≤ x := Nat.ge_two_pow_of_testBit hb
 have h2 : x < 2 ^ (k + 1) := Nat.lt_pow_two_of_testBit x (fun j hj => hn j (by omega))
 have h3 := Lib.bitLen_shift k x h1 h
 have h4 : x / 2 ^ k = 1 := by
   rw [Nat.pow_succ] at h2
   apply Nat.div_eq_of_lt_le <;> omega
 rw [h4] at h3
 have h5 : Lib.bitLen 1 = 1 := by decide
 unfold JA
 omega
theorem aez : JA 0 = -1 := by decide
end
section
end
section
open Go.RowKit
theorem LY (a : Nat) (h : a < 18446744073709551616) : IntKind.u64.wrap (a : Int) = (a : Int) := by
 rw [IntKind.wrap_u64]; omega
end
section
open Go.RowKit
theorem Qk {j : Nat} (h : j < 64) : 2 ^ j < 18446744073709551616 := by
 have := Nat.pow_lt_pow_right (a := 2) (by omega) h
 simpa using this
theorem Kj (i : Nat) (w : World) (hi : i < 64) :
   Calls Tryz.prog 137 #[.int .i64 i] w fun e w' => e = .returned (.int .u64 ((2 ^ i : Nat) : Int)) ∧ w = w' := by
 obtain ⟨p, hp⟩ : ∃ p, p = 2 ^ i := ⟨_, rfl⟩
 rw [← hp]
 have HP := Lib.hid hp
 clear hp
 go_enter Tryz.func137, Tryz.ntmps137
 go_wp2_with fail
 go_loop [0, 3] (fun t y => ∃ (j k y' : Nat), j + k = i ∧ t = .int .i64 j ∧ y = .int .u64 y' ∧ y' = 2 ^ k) (fun t _ => (intOf t).toNat)
 case atStart => exact ⟨i, 0, 1, by omega, rfl, rfl, rfl⟩
 case round =>
   obtain ⟨j, k, y, hjk, rfl, rfl, hy⟩ := hrel
   have HY := Lib.hid hy
   have HJ := Lib.hid hjk
   have hji : j ≤ i := by omega
   clear hy hjk
   by_cases hj : 0 < j
   · have e1 : IntKind.u64.wrap ((y : Int) * 2) = ((2 * y : Nat) : Int) := by
       have := Qk (j := k + 1) (by have := HJ.out; omega)
       rw [Nat.pow_succ, ← HY.out] at this
       rw [show (y : Int) * 2 = ((2 * y : Nat) : Int) by omega, LY _ (by omega)]
     go_wp2_with fail
     go_round
     case rel => exact ⟨j - 1, k + 1, 2 * y, by have := HJ.out; omega, congrArg (Value.int .i64) (by omega), rfl, by rw [Nat.pow_succ, ← HY.out]; omega⟩
     case measure => simp [intOf]; omega
   · obtain rfl : j = 0 := by omega
     go_wp2_with fail
     go_ret
     refine ⟨oD ?_, rfl⟩
     rw [HP.out, HY.out, show k = i by have := HJ.out; omega]
theorem Ou (x i : Nat) (w : World) (hx : x < 18446744073709551616) (hi : i < 64) :
   Calls Tryz.prog 139 #[.int .u64 x, .int .i64 i] w fun e w' => e = .returned (.bool (x.testBit i)) ∧ w = w' := by
 have A := Lib.hid (Kj i w hi)
 have hb : x.testBit i = decide (x / 2 ^ i % 2 = 1) := Nat.testBit_eq_decide_div_mod_eq
 have hp := Nat.two_pow_pos i
 have e1 : ((x : Int) / ((2 ^ i : Nat) : Int)) = ((x / 2 ^ i : Nat) : Int) := by omega
 generalize 2 ^ i = p at *
 obtain ⟨q, hq⟩ : ∃ q, q = x / p := ⟨_, rfl⟩
 rw [← hq] at e1 hb
 have e2 : ((x : Int) / (p : Int)) = (q : Int) := e1
 have hqx : q ≤ x := by rw [hq]; exact Nat.div_le_self _ _
 clear hq e1
 by_cases hq1 : q % 2 = 1
 · rw [hb, decide_eq_true hq1]
   have e3 : (q : Int) % 2 = 1 := by omega
   clear hb hq1
   go_enter Tryz.func139, Tryz.ntmps139
   go_wp2_with fail
   refine A.out.mono ?_; rintro e w1 ⟨rfl, rfl⟩
   go_wp2_with fail
   go_ret
   exact ⟨rfl, rfl⟩
 · rw [hb, decide_eq_false hq1]
   have e3 : (q : Int) % 2 = 0 := by omega
   clear hb hq1
   go_enter Tryz.func139, Tryz.ntmps139
   go_wp2_with fail
   refine A.out.mono ?_; rintro e w1 ⟨rfl, rfl⟩
   go_wp2_with fail
   go_ret
   exact ⟨rfl, rfl⟩
theorem Su (x : Nat) (w : World) (hx : x < 18446744073709551616) :
   Calls Tryz.prog 98 #[.int .u64 x] w fun e w' => e = .returned (.int .i64 (JA x)) ∧ w = w' := by
 have HX := Lib.hid hx
 have hstart : ∀ j, 64 ≤ j → x.testBit j = false := fun j hj => by
   cases hb : x.testBit j with
   | false => rfl
   | true => have := aiT hx hb; omega
 have HS := Lib.hid hstart
 clear hx hstart
 go_enter Tryz.func98, Tryz.ntmps98
 go_wp2_with fail
 go_loop [3] (fun t => ∃ k : Nat, k ≤ 64 ∧ t = .int .i64 ((k : Int) - 1) ∧ ∀ j, k ≤ j → x.testBit j = false) (fun t => (intOf t + 1).toNat)
 case atStart => exact ⟨64, by omega, rfl, HS.out⟩
 case round =>
   obtain ⟨k, hk, rfl, hn⟩ := hrel
   have HN := Lib.hid hn
   clear hn HS
   by_cases hk0 : 0 < k
   · obtain ⟨m, rfl⟩ : ∃ m, k = m + 1 := ⟨k - 1, by omega⟩
     have e1 : ((m + 1 : Nat) : Int) - 1 = (m : Int) := by omega
     rw [e1]
     have B := Lib.hid (Ou x m w HX.out (by omega))
     clear e1
     have hm0 : 0 ≤ (m : Int) := by omega
     cases hb : x.testBit m with
     | true =>
       rw [hb] at B
       have hh := Lib.hid (aiD hb (fun j hj => HN.out j (by omega)) HX.out)
       clear hb
       go_wp2_with fail
       refine B.out.mono ?_; rintro e w1 ⟨rfl, rfl⟩
       go_wp2_with fail
       go_ret
       exact ⟨oD hh.out.symm, rfl⟩
     | false =>
       rw [hb] at B
       have HB := Lib.hid hb
       clear hb
       go_wp2_with fail
       refine B.out.mono ?_; rintro e w1 ⟨rfl, rfl⟩
       go_wp2_with fail
       go_round
       case rel => exact ⟨m, by omega, rfl, fun j hj => by
         by_cases e : j = m
         · rw [e]; exact HB.out
         · exact HN.out j (by omega)⟩
       case measure => simp [intOf]
   · obtain rfl : k = 0 := by omega
     have hx0 : Hid (JA x = -1) := Lib.hid (by
       have : x = 0 := Nat.eq_of_testBit_eq (fun i => by rw [HN.out i (by omega)]; simp)
       rw [this]; exact aez)
     go_wp2_with fail
     go_ret
     exact ⟨oD hx0.out.symm, rfl⟩
theorem VI (x : Nat) (n : Int) (w : World) (hx : x < 18446744073709551616) (hn0 : -9223372036854775808 ≤ n) (hn1 : n ≤ 9223372036854775807) :
   Calls Tryz.prog 172 #[.int .u64 x, .int .i64 n] w fun e w' => e = .returned (.int .i64 (wH x n)) ∧ w = w' := by
 have HX := Lib.hid hx
 obtain ⟨r, hr⟩ : ∃ r, r = wH x n := ⟨_, rfl⟩
 rw [← hr]
 have HR := Lib.hid hr
 have h0 := Lib.hid (show wrap64 (n - (0 : Nat)) = n by unfold wrap64; omega)
 have tK := Lib.hid hn0
 have HN1 := Lib.hid hn1
 clear hx hr hn0 hn1
 go_enter Tryz.func172, Tryz.ntmps172
 go_wp2_with fail
 go_loop [1, 5] (fun m t => ∃ (k : Nat) (d : Int), k ≤ 64 ∧ t = .int .i64 k ∧ m = .int .i64 d ∧ d = wrap64 (n - (fe x k : Nat)) ∧ ∀ j, j < k → x.testBit j = true → (fe x j : Int) ≠ n) (fun _ t => 64 - (intOf t).toNat)
 case atStart => exact ⟨0, n, by omega, rfl, rfl, h0.out.symm, fun j hj => by omega⟩
 case round =>
   obtain ⟨k, d, hk, rfl, rfl, hd, hno⟩ := hrel
   have HD := Lib.hid hd
   have HNo := Lib.hid hno
   have hck := adn x k
   have HCK := Lib.hid hck
   clear hd hno hck h0
   by_cases hk0 : k < 64
   · have B := Lib.hid (Ou x k w HX.out (by omega))
     have HS := Lib.hid (rQ x k)
     cases hb : x.testBit k with
     | true =>
       rw [hb] at B HS
       have HB := Lib.hid hb
       clear hb
       by_cases hd0 : d = 0
       · subst hd0
         have hfin : Hid (r = k) := Lib.hid (by
           have h1 := HD.out
           have h2 := HCK.out
           have h3 := tK.out
           have h4 := HN1.out
           have : n = (fe x k : Nat) := by unfold wrap64 at h1; omega
           rw [HR.out, this]
           exact agH ⟨hk0, HB.out, rfl⟩)
         go_wp2_with fail
         refine B.out.mono ?_; rintro e w1 ⟨rfl, rfl⟩
         go_wp2_with fail
         go_ret
         exact ⟨oD hfin.out.symm, rfl⟩
       · have hd1 : (d == 0) = false := by simpa using hd0
         have hnx : Hid (wrap64 (d - 1) = wrap64 (n - (fe x (k + 1) : Nat))) := Lib.hid (by
           rw [HS.out, HD.out]
           simp only [if_true]
           unfold wrap64; omega)
         have hne : Hid ((fe x k : Int) ≠ n) := Lib.hid (by
           intro e
           apply hd0
           rw [HD.out, ← e]; unfold wrap64; omega)
         obtain ⟨d', hd'⟩ : ∃ d', d' = wrap64 (d - 1) := ⟨_, rfl⟩
         rw [← hd'] at hnx
         have hd2 := hd'.symm
         go_wp2_with fail
         refine B.out.mono ?_; rintro e w1 ⟨rfl, rfl⟩
         go_wp2_with fail
         go_round
         case rel => exact ⟨k + 1, _, by omega, by go_num, rfl, by first | exact hnx.out | (rw [← hnx.out]; exact hd'.symm), fun j hj hbj => by
           by_cases e : j = k
           · rw [e]; exact hne.out
           · exact HNo.out j (by omega) hbj⟩
         case measure => simp [intOf]; omega
     | false =>
       rw [hb] at B HS
       have HB := Lib.hid hb
       clear hb
       go_wp2_with fail
       refine B.out.mono ?_; rintro e w1 ⟨rfl, rfl⟩
       go_wp2_with fail
       go_round
       case rel => exact ⟨k + 1, d, by omega, by go_num, rfl, by rw [HS.out]; exact HD.out, fun j hj hbj => by
         by_cases e : j = k
         · rw [e, HB.out] at hbj; cases hbj
         · exact HNo.out j (by omega) hbj⟩
       case measure => simp [intOf]; omega
   · obtain rfl : k = 64 := by omega
     have hfin : Hid (r = -1) := Lib.hid (by
       rw [HR.out]
       apply aai
       by_cases h1 : n < 0
       · exact .inl h1
       · by_cases h2 : (cnt x : Int) ≤ n
         · exact .inr h2
         · obtain ⟨i, hi, hi2⟩ := Pt (x := x) (n := n.toNat) 64 (Nat.le_refl _) (by unfold cnt at h2; omega)
           exact absurd (by rw [hi2.2.2]; omega) (HNo.out i hi hi2.2.1))
     go_wp2_with fail
     go_ret
     exact ⟨oD hfin.out.symm, rfl⟩
end
section
open Go.RowKit
theorem af5 (d : Int) {n : Int} (h : 1 ≤ n) : -n < d.tmod n := by
 rw [Int.tmod_eq_emod]
 have h1 := Int.emod_nonneg d (show n ≠ 0 by omega)
 have h2 := Int.emod_lt_of_pos d (show 0 < n by omega)
 split <;> omega
def wR (d n : Int) : Int := if n < 1 then 0 else d % n
theorem abN {d n : Int} (h : n < 1) : wR d n = 0 := if_pos h
theorem agL {d n : Int} (h : 1 ≤ n) (hm : d.tmod n < 0) : wR d n = d.tmod n + n := by
 unfold wR; rw [if_neg (by omega), Int.tmod_eq_emod]
 rw [Int.tmod_eq_emod] at hm
 have h1 := Int.emod_nonneg d (show n ≠ 0 by omega)
 have h2 := Int.emod_lt_of_pos d (show 0 < n by omega)
 have e : (n.natAbs : Int) = n := by omega
 split at hm
 · omega
 · rw [if_neg (by assumption)]; omega
theorem Yb {d n : Int} (h : 1 ≤ n) (hm : 0 ≤ d.tmod n) : wR d n = d.tmod n := by
 unfold wR; rw [if_neg (by omega), Int.tmod_eq_emod]
 rw [Int.tmod_eq_emod] at hm
 have h1 := Int.emod_nonneg d (show n ≠ 0 by omega)
 have h2 := Int.emod_lt_of_pos d (show 0 < n by omega)
 have e : (n.natAbs : Int) = n := by omega
 split at hm
 · rw [if_pos (by assumption)]; omega
 · omega
theorem aeH {d n : Int} (h : 1 ≤ n) (hn : n ≤ 9223372036854775807) (hm : d.tmod n < 0) : wrap64 (d.tmod n + n) = d.tmod n + n := by
 have := af5 d h
 unfold wrap64; omega
theorem EH (d n : Int) : 0 ≤ wR d n ∧ (1 ≤ n → wR d n < n) := by
 unfold wR
 split
 · omega
 · exact ⟨Int.emod_nonneg d (by omega), fun _ => Int.emod_lt_of_pos d (by omega)⟩
theorem uu (n d : Int) (w : World) (hn : n ≤ 9223372036854775807) :
  Calls Tryz.prog 26 #[.int .i64 d, .int .i64 n] w fun e w' => e = .returned (.int .i64 (wR d n)) ∧ w = w' := by
 have hn' : Hid (n ≤ 9223372036854775807) := hn
 clear hn
 go_enter Tryz.func26, Tryz.ntmps26
 go_wp2
 · go_ret
   exact ⟨oD (abN (by assumption)).symm, rfl⟩
 · go_ret
   exact ⟨oD (by rw [agL (by assumption) (by assumption)]; exact aeH (by assumption) hn'.out (by assumption)), rfl⟩
 · go_ret
   exact ⟨oD (Yb (by assumption) (by assumption)).symm, rfl⟩
end
section
open Go.RowKit
variable {sh : Sh} {B : Nat} {G : World → Prop}
theorem gJ {cx : Cx} {w : World} {N : Nat} : dL kd cx w B N [] := fun _ _ _ _ h => by cases h
theorem rX {P : Program} {f : FuncId} {s : aj} (h : ∀ (N : Nat) (w : World) (args : Array Value) (cx : Cx), args.size = s.ps.length → (∀ (i : Nat) (t : AT), s.ps[i]? = some t → ∃ v, args[i]? = some v ∧ bD kd cx w B N t v) →
   Calls P f args w fun e w' => ∃ v, e = .returned v ∧ (∃ q, w' = w.drewN q) ∧ bD kd cx w B N s.res v) (hpost : s.post = [] := by rfl) : TC P kd sh B G f s := by
 intro N w args ha hB hl hw hG hp Lm
 refine (h N w args _ ha hp).mono ?_
 rintro e w' ⟨v, rfl, ⟨q, rfl⟩, hv⟩
 exact ⟨v, rfl, (hw.mono (Nat.le_add_right _ _)).drewN q, (Eff.refl _ _).drewN q, hv.mono ((Eff.refl (fun _ _ _ => False) w).drewN q) (Nat.le_add_right _ _), by rw [hpost]; exact gJ⟩
theorem vK {args : Array Value} (h : args.size = 1) : ∃ a, args = #[a] := by
 obtain ⟨l⟩ := args
 match l, h with
 | [a], _ => exact ⟨a, rfl⟩
theorem Az {args : Array Value} (h : args.size = 2) : ∃ a b, args = #[a, b] := by
 obtain ⟨l⟩ := args
 match l, h with
 | [a, b], _ => exact ⟨a, b, rfl⟩
theorem ajo {args : Array Value} (h : args.size = 3) : ∃ a b c, args = #[a, b, c] := by
 obtain ⟨l⟩ := args
 match l, h with
 | [a, b, c], _ => exact ⟨a, b, c, rfl⟩
theorem eu {kd : Kd} {cx : Cx} {w : World} {N i : Nat} {ps : List AT} {args : Array Value} {t : AT} {a : Value} (hp : ∀ (i : Nat) (t : AT), ps[i]? = some t → ∃ v, args[i]? = some v ∧ bD kd cx w B N t v) (h1 : ps[i]? = some t) (h2 : args[i]? = some a) : bD kd cx w B N t a := by
 obtain ⟨v, e, hv⟩ := hp i t h1
 rw [h2] at e
 cases e
 exact hv
theorem Fs {n : Int} (h : bB .i64 n) : -9223372036854775808 ≤ n ∧ n ≤ 9223372036854775807 := by
 have e1 : IntKind.i64.min = -9223372036854775808 := by decide
 have e2 : IntKind.i64.max = 9223372036854775807 := by decide
 unfold bB at h; rw [e1, e2] at h; exact h
theorem i64_in {n : Int} (h : -9223372036854775808 ≤ n ∧ n ≤ 9223372036854775807) : bB .i64 n := by
 have e1 : IntKind.i64.min = -9223372036854775808 := by decide
 have e2 : IntKind.i64.max = 9223372036854775807 := by decide
 unfold bB; rw [e1, e2]; exact h
theorem FZ {n : Int} (h : bB .u64 n) : 0 ≤ n ∧ n ≤ 18446744073709551615 := by
 have e1 : IntKind.u64.min = 0 := by decide
 have e2 : IntKind.u64.max = 18446744073709551615 := by decide
 unfold bB at h; rw [e1, e2] at h; exact h
theorem u64_in {n : Int} (h : 0 ≤ n ∧ n ≤ 18446744073709551615) : bB .u64 n := by
 have e1 : IntKind.u64.min = 0 := by decide
 have e2 : IntKind.u64.max = 18446744073709551615 := by decide
 unfold bB; rw [e1, e2]; exact h
theorem acw (z : Int) (hz : bB .i64 z) (w : World) : Calls Tryz.prog 137 #[.int .i64 z] w fun e w' => ∃ u, e = .returned (.int .u64 u) ∧ bB .u64 u ∧ w' = w := by
 have hz1 := (Fs hz).2
 clear hz
 go_enter Tryz.func137, Tryz.ntmps137
 go_wp2_with fail
 go_loop [0, 3] (fun t y => ∃ (j y' : Int), t = .int .i64 j ∧ j ≤ 9223372036854775807 ∧ y = .int .u64 y' ∧ bB .u64 y') (fun t _ => (intOf t).toNat)
 case atStart => exact ⟨z, 1, rfl, hz1, rfl, u64_in (by omega)⟩
 case round =>
   obtain ⟨j, y, rfl, hj1, rfl, hy⟩ := hrel
   have HY := Lib.hid hy
   clear hy
   by_cases hj : 0 < j
   · obtain ⟨v, hv⟩ : ∃ v, v = IntKind.u64.wrap (y * 2) := ⟨_, rfl⟩
     have e1 : IntKind.u64.wrap (y * 2) = v := hv.symm
     have HV : Hid (bB .u64 v) := Lib.hid (by rw [hv]; exact gP _ _)
     clear hv
     have e2 : IntKind.i64.wrap (j - 1) = j - 1 := IntWalk.i64_in _ (by omega)
     go_wp2_with fail
     go_round
     case rel => exact ⟨j - 1, v, rfl, by omega, rfl, HV.out⟩
     case measure => simp [intOf]; omega
   · go_wp2_with fail
     go_ret
     exact ⟨y, rfl, HY.out, rfl⟩
theorem agq (x z : Int) (hx : bB .u64 x) (hz : bB .i64 z) (w : World) : Calls Tryz.prog 139 #[.int .u64 x, .int .i64 z] w fun e w' => ∃ b, e = .returned (.bool b) ∧ w' = w := by
 by_cases h : 0 ≤ z ∧ z < 64
 · obtain ⟨n, rfl⟩ : ∃ n : Nat, x = n := ⟨x.toNat, by have := FZ hx; omega⟩
   obtain ⟨i, rfl⟩ : ∃ n : Nat, z = n := ⟨z.toNat, by omega⟩
   exact (Ou n i w (by have := FZ hx; omega) (by omega)).mono (by rintro e w' ⟨rfl, rfl⟩; exact ⟨_, rfl, rfl⟩)
 · clear hx hz
   by_cases h0 : 0 ≤ z
   · have h1 : 64 ≤ z := by omega
     go_enter Tryz.func139, Tryz.ntmps139
     go_wp2_with fail
     go_ret
     exact ⟨.inl rfl, rfl⟩
   · go_enter Tryz.func139, Tryz.ntmps139
     go_wp2_with fail
     go_ret
     exact ⟨.inl rfl, rfl⟩
theorem ahV {x : Nat} (h : x < 18446744073709551616) : -1 ≤ JA x ∧ JA x ≤ 63 := by
 have : Lib.bitLen x ≤ 64 := by
   rcases Nat.eq_zero_or_pos x with h0 | h0
   · subst h0; decide
   · exact Lib.bitLen_le x 64 (by decide) h
 unfold JA
 omega
theorem age (x : Nat) (n : Int) : -1 ≤ wH x n ∧ wH x n ≤ 63 := by
 unfold wH
 split
 · rename_i k hf
   have h2 := List.mem_of_find?_eq_some hf
   simp at h2
   omega
 · omega
theorem aeF : TC Tryz.prog kd sh B G 137 OQ := rX fun N w args cx ha hp => by
 obtain ⟨a, rfl⟩ := vK ha
 obtain ⟨z, rfl, hz⟩ := eu hp (i := 0) rfl rfl
 exact (acw z hz w).mono (by rintro e w' ⟨u, rfl, hu, rfl⟩; exact ⟨_, rfl, ⟨0, rfl⟩, u, rfl, hu⟩)
theorem ahb : TC Tryz.prog kd sh B G 139 aaS := rX fun N w args cx ha hp => by
 obtain ⟨a, b, rfl⟩ := Az ha
 obtain ⟨x, rfl, hx⟩ := eu hp (i := 0) rfl rfl
 obtain ⟨z, rfl, hz⟩ := eu hp (i := 1) rfl rfl
 exact (agq x z hx hz w).mono (by rintro e w' ⟨u, rfl, rfl⟩; exact ⟨_, rfl, ⟨0, rfl⟩, u, rfl⟩)
theorem agl : TC Tryz.prog kd sh B G 98 Tq := rX fun N w args cx ha hp => by
 obtain ⟨a, rfl⟩ := vK ha
 obtain ⟨x, rfl, hx⟩ := eu hp (i := 0) rfl rfl
 have hb := FZ hx
 obtain ⟨n, rfl⟩ : ∃ n : Nat, x = n := ⟨x.toNat, by omega⟩
 have h1 := ahV (x := n) (by omega)
 exact (Su n w (by omega)).mono (by rintro e w' ⟨rfl, rfl⟩; exact ⟨_, rfl, ⟨0, rfl⟩, _, rfl, i64_in (by omega)⟩)
theorem ahP : TC Tryz.prog kd sh B G 172 Zi := rX fun N w args cx ha hp => by
 obtain ⟨a, b, rfl⟩ := Az ha
 obtain ⟨x, rfl, hx⟩ := eu hp (i := 0) rfl rfl
 obtain ⟨z, rfl, hz⟩ := eu hp (i := 1) rfl rfl
 have hb := FZ hx
 have hc := Fs hz
 obtain ⟨n, rfl⟩ : ∃ n : Nat, x = n := ⟨x.toNat, by omega⟩
 have h1 := age n z
 exact (VI n z w (by omega) hc.1 hc.2).mono (by rintro e w' ⟨rfl, rfl⟩; exact ⟨_, rfl, ⟨0, rfl⟩, _, rfl, i64_in (by omega)⟩)
theorem agX : TC Tryz.prog kd sh B G 26 Ul := rX fun N w args cx ha hp => by
 obtain ⟨a, b, rfl⟩ := Az ha
 obtain ⟨d, rfl, hd⟩ := eu hp (i := 0) rfl rfl
 obtain ⟨n, rfl, hn⟩ := eu hp (i := 1) rfl rfl
 have h1 := EH d n
 have h2 := Fs hn
 exact (uu n d w h2.2).mono (by
   rintro e w' ⟨rfl, rfl⟩
   refine ⟨_, rfl, ⟨0, rfl⟩, _, rfl, i64_in ⟨by omega, ?_⟩⟩
   rcases Int.lt_or_le n 1 with h3 | h3
   · rw [abN h3]; omega
   · have := h1.2 h3; omega)
end
section
open Go.RowKit
variable {sh : Sh} {B : Nat} {G : World → Prop}
theorem mixed : Tryz.prog.follows .mixedOrders = true := by kernel_rfl
def Ko : aj := ⟨[.v (.c (.int .i64)), .pos .i64, .v (.c (.int .i64))], .v (.c (.int .i64)), [], 0, [], []⟩
theorem ZI : aW Tryz.prog kd aQ (ah []) ae Tryz.f154 Ko = true := by kernel_rfl
theorem aff (hev : aG sh G) (hS : Safe kd ae G) : TC Tryz.prog kd sh B G 154 Mm := by
 intro N w args ha hB hl hw hG hp Lm
 obtain ⟨a, b, c, rfl⟩ := ajo ha
 obtain ⟨x, rfl, hx⟩ := eu hp (i := 0) rfl rfl
 obtain ⟨y, rfl, hy⟩ := eu hp (i := 1) rfl rfl
 obtain ⟨z, rfl, hz⟩ := eu hp (i := 2) rfl rfl
 by_cases h : 0 < y
 · have hT : TC Tryz.prog kd sh B G 154 Ko := aH Tryz.func154 ZI jk hev hS mixed
   refine (hT N w #[.int .i64 x, .int .i64 y, .int .i64 z] rfl hB hl hw hG (fun i t ht => ?_) (fun _ _ _ _ h => by cases h)).mono ?_
   · match i, ht with
     | 0, ht => cases ht; exact ⟨_, rfl, x, rfl, hx⟩
     | 1, ht => cases ht; exact ⟨_, rfl, y, rfl, hy, h⟩
     | 2, ht => cases ht; exact ⟨_, rfl, z, rfl, hz⟩
   · rintro e w' ⟨v, rfl, g1, g2, g3, -⟩
     refine ⟨v, rfl, g1, g2.mono fun k T j _ hc => ?_, g3, gJ⟩
     rcases hc with hc | ⟨i, o, hm, _⟩ | ⟨o, hm, _⟩
     · exact .inl hc
     · cases hm
     · cases hm
 · have hy1 : y < 1 := by omega
   clear hp hx hy hz h
   go_enter Tryz.func154, Tryz.ntmps154
   go_wp2_with fail
   go_ret
   exact ⟨_, rfl, hw.mono (Nat.le_add_right _ _), Eff.refl _ _, ⟨0, rfl, i64_in (by omega)⟩, gJ⟩
def KF : aj := ⟨[.sm .i64], .pos .u64, [], 0, [], []⟩
theorem ZM : TC Tryz.prog kd sh B G 137 KF := rX fun N w args cx ha hp => by
 obtain ⟨a, rfl⟩ := vK ha
 obtain ⟨z, rfl, hz, h1, h2⟩ := eu hp (i := 0) rfl rfl
 obtain ⟨n, rfl⟩ : ∃ n : Nat, z = n := ⟨z.toNat, by omega⟩
 have h3 := Qk (j := n) (by omega)
 have h4 := Nat.two_pow_pos n
 exact (Kj n w (by omega)).mono (by rintro e w' ⟨rfl, rfl⟩; exact ⟨_, rfl, ⟨0, rfl⟩, _, rfl, u64_in (by omega), by omega⟩)
def ZA : List (Nat × aj) := [(137, KF)]
theorem Vf : aW Tryz.prog kd aQ (ah ZA) ae Tryz.f143 xW = true := by kernel_rfl
theorem ED : au Tryz.prog 137 := aO Tryz.func137 (by kernel_rfl) (by kernel_rfl)
theorem Z6 (hev : aG sh G) (hS : Safe kd ae G) : TC Tryz.prog kd sh B G 143 xW :=
 aH Tryz.func143 Vf (bn ED ZM jk) hev hS mixed
end
section
open Go.RowKit
variable {sh : Sh} {B : Nat} {G : World → Prop}
theorem Kk {w : World} {B N : Nat} {l : List Value} (h : bJ w B N [] l) : l = [] := by
 cases l with
 | nil => rfl
 | cons a b => exact h.elim
theorem lK {w : World} {B N : Nat} {k : CK} {L : List CK} {l : List Value} (h : bJ w B N (k :: L) l) : ∃ v r, l = v :: r ∧ aU w B N k v ∧ bJ w B N L r := by
 cases l with
 | nil => exact h.elim
 | cons a b => exact ⟨a, b, rfl, h.1, h.2⟩
set_option maxRecDepth 100000 in
set_option maxHeartbeats 1000000 in
theorem acO (w : World) (t b r c i : Int) (hc : c ≤ 9223372036854775807) : Calls Tryz.prog 135 #[.agg #[.int .i64 t, .int .i64 b, .int .i64 r, .int .i64 c], .int .u64 i] w fun e w' =>
   ∃ z, e = .returned (.int .i64 z) ∧ bB .i64 z ∧ ∃ q, w' = (w.alloc (.cells #[.int .i64 t, .int .i64 b, .int .i64 r, .int .i64 c] 116)).drewN q := by
 by_cases h : c < 1
 · clear hc
   go_enter Tryz.func135, Tryz.ntmps135
   go_wp2_with fail
   go_ret
   exact ⟨-1, rfl, i64_in (by omega), 0, rfl⟩
 · obtain ⟨c0, hc0⟩ : ∃ c0 : Bool, c0 = (c == 0) := ⟨_, rfl⟩
   have e1 : IntKind.u64.wrap c = c := by rw [IntKind.wrap_u64]; omega
   have hc1 : (c == 0) = false := by simp; omega
   have hc2 : c ≠ 0 := by omega
   go_enter Tryz.func135, Tryz.ntmps135
   go_wp2_with fail
   have hb := blk_alloc_new w (.cells #[.int .i64 t, .int .i64 b, .int .i64 r, .int .i64 c] 116)
   have c2 : (w.alloc (.cells #[.int .i64 t, .int .i64 b, .int .i64 r, .int .i64 c] 116)).cell? ⟨w.heap.size, 2, none⟩ = some (.int .i64 r) := (aa hb 2).trans rfl
   have c3 : (w.alloc (.cells #[.int .i64 t, .int .i64 b, .int .i64 r, .int .i64 c] 116)).cell? ⟨w.heap.size, 3, none⟩ = some (.int .i64 c) := (aa hb 3).trans rfl
   have C2 := Lib.hid c2
   have C3 := Lib.hid c3
   clear c2 c3
   obtain ⟨z1, hz1⟩ : ∃ z, z = IntKind.i64.wrap (i.tmod c) := ⟨_, rfl⟩
   obtain ⟨z2, hz2⟩ : ∃ z, z = IntKind.i64.wrap (r + z1) := ⟨_, rfl⟩
   have w1 : IntKind.i64.wrap (i.tmod c) = z1 := hz1.symm
   have w2 : IntKind.i64.wrap (r + z1) = z2 := hz2.symm
   have HZ : Hid (bB .i64 z2) := Lib.hid (by rw [hz2]; exact gP _ _)
   clear hz1 hz2 hb
   go_region_held3 (fun w' => w'.cell? ⟨w.heap.size, 2, none⟩ = some (.int .i64 r) ∧ w'.cell? ⟨w.heap.size, 3, none⟩ = some (.int .i64 c)) (exact ⟨C2.out, C3.out⟩) (fail)
   go_wp2_with fail
   go_ret
   exact ⟨z2, rfl, HZ.out, 1, rfl⟩
theorem agD : TC Tryz.prog kd sh B G 135 TI := by
 intro N w args ha hB hl hw hG hp Lm
 obtain ⟨a, b, rfl⟩ := Az ha
 obtain ⟨cs, rfl, hcs⟩ := eu hp (i := 0) rfl rfl
 obtain ⟨i, rfl, hi⟩ := eu hp (i := 1) rfl rfl
 have hrow := aT.one hcs
 obtain ⟨v0, l0, rfl, ⟨t, rfl, ht⟩, g0⟩ := lK hcs
 obtain ⟨v1, l1, rfl, ⟨b, rfl, hb⟩, g1⟩ := lK g0
 obtain ⟨v2, l2, rfl, ⟨r, rfl, hr⟩, g2⟩ := lK g1
 obtain ⟨v3, l3, rfl, ⟨c, rfl, hc⟩, g3⟩ := lK g2
 obtain rfl := Kk g3
 refine (acO w t b r c i (Fs hc).2).mono ?_
 rintro e w' ⟨z, rfl, hz, q, rfl⟩
 refine ⟨_, rfl, WT.drewN (WT.alloc (hw.mono (Nat.le_add_right _ _)) (T := 116) (L := pG) rfl (hrow.mono (Eff.refl (fun _ _ _ => False) w) (Nat.le_add_right _ _))) q, ((Eff.refl _ _).alloc _).drewN q, ⟨z, rfl, hz⟩, gJ⟩
end
end Go.Proofs.YtncnepmgmphanaaGreatDoor
