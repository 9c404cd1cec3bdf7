/- The laws WordsOrder and WordsKeys of chapter 1, walked. -/
import Derived.Test.YtmoegebikfchjaaDoorWordsLaws
import Derived.Test.YtmoegebikfchjaaDoorWordsPlain3
namespace Go.Proofs.YtmoegebikfchjaaDoor
open Go.RowKit
set_option linter.unusedVariables false

theorem shl1 (b : Nat) (hb : b < 64) : IntKind.u64.wrap ((2 : Int) ^ b) = ((2 ^ b : Nat) : Int) := by
  have := pow_lt64 hb
  rw [show ((2 : Int) ^ b) = ((2 ^ b : Nat) : Int) by rw [Int.natCast_pow]; rfl, wrap_u64_nat _ this]

set_option maxHeartbeats 1600000 in
theorem WordsOrder_any (w : World) (x : Nat) (hx : x < 18446744073709551616) (hT : TabAt w) :
    Calls Tryd.prog 6 #[.int .u64 x] w fun e w' => e = .returned (.bool true) ∧ Only [] w w' := by
  have A := Lib.hid (awake_any w hT)
  have HR := Lib.hid (Only.refl [] w)
  have HX := Lib.hid hx
  have HT := Lib.hid hT
  have C := Lib.hid (count_any x w hx)
  have L := Lib.hid (low_any x w hx hT)
  have H := Lib.hid (high_any x w hx)
  have N := Lib.hid (nth_any x (cnt x) w hx hT (by have := cnt_le x; omega))
  rw [nthI_none (.inr (Int.le_refl _))] at N
  have hc := cnt_le x
  obtain ⟨c, hcc⟩ : ∃ c, c = cnt x := ⟨_, rfl⟩
  rw [← hcc] at C hc N
  have HC := Lib.hid hcc
  clear hx hT hcc
  go_enter Tryd.func6, Tryd.ntmps6
  go_wp2_with fail
  refine C.out.mono ?_; rintro e w1 ⟨rfl, rfl⟩
  go_wp2_with fail
  go_loop [3, 4, 6] (fun sm ls t => ∃ (k m s : Nat), k ≤ c ∧ t = .int .i64 k ∧ ls = .int .i64 ((m : Int) - 1) ∧ sm = .int .u64 s ∧ m ≤ 64 ∧ cntTo x m = k ∧ s = x % 2 ^ m) (fun _ _ t => c - (intOf t).toNat)
  case atStart => exact ⟨0, 0, 0, by omega, rfl, rfl, rfl, by omega, rfl, by omega⟩
  case round =>
    obtain ⟨k, m, s, hk, rfl, rfl, rfl, hm, hmk, hs⟩ := hrel
    have HM := Lib.hid hmk
    have HS := Lib.hid hs
    clear hmk hs
    by_cases hkc : k < c
    · obtain ⟨b, _, hb⟩ := isNth_exists (x := x) (n := k) 64 (Nat.le_refl _) (by have := HC.out; unfold cnt at this; omega)
      have B := Lib.hid (nth_any x k w HX.out HT.out (by omega))
      rw [nthI_of hb] at B
      obtain ⟨hmb, hc1, hs1⟩ := nth_step HM.out hb
      have hb64 : b < 64 := hb.1
      have f1 := shl1 b hb64
      have hp := pow_lt64 hb64
      have hs2 : x % 2 ^ (b + 1) ≤ x := Nat.mod_le _ _
      have hz : k = 0 → loI x = b := fun e => by
        subst e
        rw [← nth_zero x HX.out]
        exact nthI_of hb
      have hl : k + 1 = c → hiI x = b := fun e => nth_last HX.out (by have := HC.out; omega) hb
      rw [← HS.out] at hs1
      obtain ⟨p, hpp⟩ : ∃ p, p = 2 ^ b := ⟨_, rfl⟩
      rw [← hpp] at f1 hs1
      obtain ⟨y, hy⟩ : ∃ y, y = x % 2 ^ (b + 1) := ⟨_, rfl⟩
      rw [← hy] at hs1
      have f3 : IntKind.u64.wrap ((s : Int) + (p : Int)) = (y : Int) := by
        rw [show (s : Int) + (p : Int) = (y : Int) by omega, wrap_u64_nat _ (by have := HX.out; omega)]
      have HY := Lib.hid hy
      have HC1 := Lib.hid hc1
      have g1 : (m : Int) - 1 < (b : Int) := by omega
      clear hs1 hs2 hy hpp hp hc1 hb
      rcases Nat.eq_zero_or_pos k with hk0 | hk0
      · have L' := L
        rw [hz hk0] at L'
        subst hk0
        by_cases hlast : 0 + 1 = c
        · have H' := H
          rw [hl hlast] at H'
          have hlast' : ((0 : Int) == (c : Int) - 1) = true := by simp; omega
          clear hz hl
          go_wp2_with fail
          refine B.out.mono ?_; rintro e w1 ⟨rfl, rfl⟩
          go_wp2_with fail
          refine L'.out.mono ?_; rintro e w1 ⟨rfl, rfl⟩
          go_wp2_with fail
          refine H'.out.mono ?_; rintro e w1 ⟨rfl, rfl⟩
          go_wp2_with fail
          go_round
          case rel => exact ⟨0 + 1, b + 1, y, by omega, rfl, congrArg (Value.int .i64) (by omega), rfl, by omega, HC1.out, HY.out⟩
          case measure => simp [intOf]; omega
        · have hlast' : ((0 : Int) == (c : Int) - 1) = false := by simp; omega
          have hlast2 : ¬ (0 : Int) = (c : Int) - 1 := by omega
          clear hz hl
          go_wp2_with fail
          refine B.out.mono ?_; rintro e w1 ⟨rfl, rfl⟩
          go_wp2_with fail
          refine L'.out.mono ?_; rintro e w1 ⟨rfl, rfl⟩
          go_wp2_with fail
          go_round
          case rel => exact ⟨0 + 1, b + 1, y, by omega, rfl, congrArg (Value.int .i64) (by omega), rfl, by omega, HC1.out, HY.out⟩
          case measure => simp [intOf]; omega
      · have hk1 : ((k : Int) == 0) = false := by simp; omega
        by_cases hlast : k + 1 = c
        · have H' := H
          rw [hl hlast] at H'
          have hlast' : ((k : Int) == (c : Int) - 1) = true := by simp; omega
          clear hz hl
          go_wp2_with fail
          refine B.out.mono ?_; rintro e w1 ⟨rfl, rfl⟩
          go_wp2_with fail
          refine H'.out.mono ?_; rintro e w1 ⟨rfl, rfl⟩
          go_wp2_with fail
          go_round
          case rel => exact ⟨k + 1, b + 1, y, by omega, by go_num, congrArg (Value.int .i64) (by omega), rfl, by omega, HC1.out, HY.out⟩
          case measure => simp [intOf]; omega
        · have hlast' : ((k : Int) == (c : Int) - 1) = false := by simp; omega
          clear hz hl
          go_wp2_with fail
          refine B.out.mono ?_; rintro e w1 ⟨rfl, rfl⟩
          go_wp2_with fail
          go_round
          case rel => exact ⟨k + 1, b + 1, y, by omega, by go_num, congrArg (Value.int .i64) (by omega), rfl, by omega, HC1.out, HY.out⟩
          case measure => simp [intOf]; omega
    · obtain rfl : k = c := by omega
      have hfin : s = x := by rw [HS.out]; exact mod_end HX.out hm (by rw [HM.out]; exact HC.out)
      subst hfin
      go_wp2_with fail
      refine A.out.mono ?_; rintro e w1 ⟨rfl, rfl⟩
      go_wp2_with fail
      refine N.out.mono ?_; rintro e w1 ⟨rfl, rfl⟩
      go_wp2_with fail
      go_ret
      exact ⟨rfl, HR.out⟩

theorem unpack_pack {d a t : Int} (h : PackOk d a t) : un1 (packI d a t) = d ∧ un2 (packI d a t) = a ∧ un3 (packI d a t) = t ∧ 0 ≤ packI d a t ∧ packI d a t < 18446744073709551616 := by
  unfold PackOk at h
  unfold un1 un2 un3 packI
  omega

set_option maxHeartbeats 1600000 in
theorem WordsKeys_tail (w : World) (d a t : Int) (k : Nat) (hk : k < 18446744073709551616) (hT : TabAt w) (b : Bool) (d' a' t' : Int)
    (hb : (b = false ∧ d' = d ∧ a' = a ∧ t' = t) ∨ (b = true ∧ d' = (d.tmod 16777216 + 16777216) % 16777216 ∧ a' = (a.tmod 16777216 + 16777216) % 16777216 ∧ t' = (t.tmod 65536 + 65536) % 65536)) :
    Calls Tryd.prog 9 #[.int .i64 d, .int .i64 a, .int .i64 t, .int .u64 k, .bool b] w fun e w' => e = .returned (.bool true) ∧ Only [] w w' := by
  have U := Lib.hid (unpack_any k w hk)
  have V := Lib.hid (refUnpack_any k w hk)
  have HT := Lib.hid hT
  generalize un1 k = u1 at U V
  generalize un2 k = u2 at U V
  generalize un3 k = u3 at U V
  clear hT hk
  have hsplit : (∃ x : Nat, x < 18446744073709551616 ∧ (∀ w, Hid (Calls Tryd.prog 23 #[.int .i64 d', .int .i64 a', .int .i64 t'] w fun e w' => e = .returned (.tuple #[.int .u64 x, .bool true]) ∧ w = w')) ∧
      (∀ w, Hid (Calls Tryd.prog 24 #[.int .i64 d', .int .i64 a', .int .i64 t'] w fun e w' => e = .returned (.tuple #[.int .u64 x, .bool true]) ∧ w = w')) ∧
      (∀ w, Hid (Calls Tryd.prog 25 #[.int .u64 x] w fun e w' => e = .returned (.tuple #[.int .i64 d', .int .i64 a', .int .i64 t']) ∧ w = w'))) ∨
      ((∀ w, Hid (Calls Tryd.prog 23 #[.int .i64 d', .int .i64 a', .int .i64 t'] w fun e w' => e = .returned (.tuple #[.int .u64 0, .bool false]) ∧ w = w')) ∧
      (∀ w, Hid (Calls Tryd.prog 24 #[.int .i64 d', .int .i64 a', .int .i64 t'] w fun e w' => e = .returned (.tuple #[.int .u64 0, .bool false]) ∧ w = w')) ∧
      (∀ w, Hid (Calls Tryd.prog 25 #[.int .u64 0] w fun e w' => e = .returned (.tuple #[.int .i64 0, .int .i64 0, .int .i64 0]) ∧ w = w'))) := by
    by_cases hok : PackOk d' a' t'
    · obtain ⟨h1, h2, h3, h4, h5⟩ := unpack_pack hok
      obtain ⟨x, hx⟩ := Int.eq_ofNat_of_zero_le h4
      refine .inl ⟨x, by omega, fun w => ?_, fun w => ?_, fun w => ?_⟩
      · have := pack_any d' a' t' w hok
        rw [hx] at this
        exact Lib.hid this
      · have := refPack_any d' a' t' w hok
        rw [hx] at this
        exact Lib.hid this
      · have := unpack_any x w (by omega)
        rw [← hx, h1, h2, h3] at this
        exact Lib.hid (by rw [← hx]; exact this)
    · exact .inr ⟨fun w => Lib.hid (pack_out d' a' t' w hok), fun w => Lib.hid (refPack_out d' a' t' w hok), fun w => Lib.hid (unpack_any 0 w (by omega))⟩
  have b1 := tmod_bd d (n := 16777216) (by omega)
  have b2 := tmod_bd a (n := 16777216) (by omega)
  have b3 := tmod_bd t (n := 65536) (by omega)
  rcases hb with ⟨rfl, rfl, rfl, rfl⟩ | ⟨rfl, ed, ea, et⟩
  · clear b1 b2 b3
    rcases hsplit with ⟨x, hx, P1, P2, P3⟩ | ⟨P1, P2, P3⟩
    · go_enter Tryd.func9, Tryd.ntmps9
      go_wp2_with fail
      refine (P1 _).out.mono ?_; rintro e w1 ⟨rfl, rfl⟩
      go_wp2_with fail
      refine (P2 _).out.mono ?_; rintro e w1 ⟨rfl, rfl⟩
      go_wp2_with fail
      refine U.out.mono ?_; rintro e w1 ⟨rfl, rfl⟩
      go_wp2_with fail
      refine V.out.mono ?_; rintro e w2 ⟨rfl, o2⟩
      have AW := Lib.hid (awake_any w2 (HT.out.keep o2))
      have P3' := P3 w2
      have O2 := Lib.hid o2
      clear o2 P1 P2 P3 V U
      go_wp2_with fail
      refine AW.out.mono ?_; rintro e w3 ⟨rfl, rfl⟩
      go_wp2_with fail
      refine P3'.out.mono ?_; rintro e w3 ⟨rfl, rfl⟩
      go_wp2_with fail
      go_ret
      exact ⟨rfl, O2.out⟩
    · go_enter Tryd.func9, Tryd.ntmps9
      go_wp2_with fail
      refine (P1 _).out.mono ?_; rintro e w1 ⟨rfl, rfl⟩
      go_wp2_with fail
      refine (P2 _).out.mono ?_; rintro e w1 ⟨rfl, rfl⟩
      go_wp2_with fail
      refine U.out.mono ?_; rintro e w1 ⟨rfl, rfl⟩
      go_wp2_with fail
      refine V.out.mono ?_; rintro e w2 ⟨rfl, o2⟩
      have AW := Lib.hid (awake_any w2 (HT.out.keep o2))
      have P3' := P3 w2
      have O2 := Lib.hid o2
      clear o2 P1 P2 P3 V U
      go_wp2_with fail
      refine AW.out.mono ?_; rintro e w3 ⟨rfl, rfl⟩
      go_wp2_with fail
      refine P3'.out.mono ?_; rintro e w3 ⟨rfl, rfl⟩
      go_wp2_with fail
      go_ret
      exact ⟨rfl, O2.out⟩
  · generalize hd : d.tmod 16777216 = td at *
    generalize ha : a.tmod 16777216 = ta at *
    generalize ht : t.tmod 65536 = tt at *
    obtain ⟨b11, b12⟩ := b1
    obtain ⟨b21, b22⟩ := b2
    obtain ⟨b31, b32⟩ := b3
    have ed' := ed.symm
    have ea' := ea.symm
    have et' := et.symm
    clear ed ea et
    rcases hsplit with ⟨x, hx, P1, P2, P3⟩ | ⟨P1, P2, P3⟩
    · go_enter Tryd.func9, Tryd.ntmps9
      go_wp2_with fail
      refine (P1 _).out.mono ?_; rintro e w1 ⟨rfl, rfl⟩
      go_wp2_with fail
      refine (P2 _).out.mono ?_; rintro e w1 ⟨rfl, rfl⟩
      go_wp2_with fail
      refine U.out.mono ?_; rintro e w1 ⟨rfl, rfl⟩
      go_wp2_with fail
      refine V.out.mono ?_; rintro e w2 ⟨rfl, o2⟩
      have AW := Lib.hid (awake_any w2 (HT.out.keep o2))
      have P3' := P3 w2
      have O2 := Lib.hid o2
      clear o2 P1 P2 P3 V U
      go_wp2_with fail
      refine AW.out.mono ?_; rintro e w3 ⟨rfl, rfl⟩
      go_wp2_with fail
      refine P3'.out.mono ?_; rintro e w3 ⟨rfl, rfl⟩
      go_wp2_with fail
      go_ret
      exact ⟨rfl, O2.out⟩
    · go_enter Tryd.func9, Tryd.ntmps9
      go_wp2_with fail
      refine (P1 _).out.mono ?_; rintro e w1 ⟨rfl, rfl⟩
      go_wp2_with fail
      refine (P2 _).out.mono ?_; rintro e w1 ⟨rfl, rfl⟩
      go_wp2_with fail
      refine U.out.mono ?_; rintro e w1 ⟨rfl, rfl⟩
      go_wp2_with fail
      refine V.out.mono ?_; rintro e w2 ⟨rfl, o2⟩
      have AW := Lib.hid (awake_any w2 (HT.out.keep o2))
      have P3' := P3 w2
      have O2 := Lib.hid o2
      clear o2 P1 P2 P3 V U
      go_wp2_with fail
      refine AW.out.mono ?_; rintro e w3 ⟨rfl, rfl⟩
      go_wp2_with fail
      refine P3'.out.mono ?_; rintro e w3 ⟨rfl, rfl⟩
      go_wp2_with fail
      go_ret
      exact ⟨rfl, O2.out⟩

theorem WordsKeys_any (w : World) (d a t : Int) (k : Nat) (hk : k < 18446744073709551616) (b : Bool) (hT : TabAt w) :
    Calls Tryd.prog 9 #[.int .i64 d, .int .i64 a, .int .i64 t, .int .u64 k, .bool b] w fun e w' => e = .returned (.bool true) ∧ Only [] w w' := by
  cases b with
  | false => exact WordsKeys_tail w d a t k hk hT false d a t (.inl ⟨rfl, rfl, rfl, rfl⟩)
  | true => exact WordsKeys_tail w d a t k hk hT true _ _ _ (.inr ⟨rfl, rfl, rfl, rfl⟩)
end Go.Proofs.YtmoegebikfchjaaDoor
