/- The laws of chapter 1 (words), walked: each returns true, and no block that was there has changed. -/
import Derived.Test.YtmoegebikfchjaaDoorWordsRest
namespace Go.Proofs.YtmoegebikfchjaaDoor
open Go.RowKit
set_option linter.unusedVariables false

theorem TabAt.keep {w w' : World} (h : TabAt w) (o : Only [] w w') : TabAt w' := fun j hj => o.keepCell (h j hj) (by simp)

set_option maxHeartbeats 400000 in
theorem awake_any (w : World) (hT : TabAt w) : Calls Tryd.prog 10 #[] w fun e w' => e = .returned (.bool true) ∧ w = w' := by
  have A : Hid (∀ w, Calls Tryd.prog 23 #[.int .i64 1, .int .i64 2, .int .i64 3] w fun e w' => e = .returned (.tuple #[.int .u64 1099511758851, .bool true]) ∧ w = w') := Lib.hid (fun w => pack_any 1 2 3 w (by unfold PackOk; omega))
  have B : Hid (∀ w, Calls Tryd.prog 11 #[.int .u64 44] w fun e w' => e = .returned (.int .i64 5) ∧ w = w') := Lib.hid (fun w => high_any 44 w (by omega))
  have C : Hid (TabAt w → Calls Tryd.prog 13 #[.int .u64 44] w fun e w' => e = .returned (.int .i64 2) ∧ w = w') := Lib.hid (fun h => low_any 44 w (by omega) h)
  have D : Hid (∀ w, Calls Tryd.prog 15 #[.int .u64 44] w fun e w' => e = .returned (.int .i64 3) ∧ w = w') := Lib.hid (fun w => count_any 44 w (by omega))
  have E : Hid (TabAt w → Calls Tryd.prog 17 #[.int .u64 44, .int .i64 1] w fun e w' => e = .returned (.int .i64 3) ∧ w = w') := Lib.hid (fun h => nth_any 44 1 w (by omega) h (by omega))
  have F : Hid (∀ w, Calls Tryd.prog 19 #[.int .i64 2, .int .i64 5] w fun e w' => e = .returned (.int .u64 28) ∧ w = w') := Lib.hid (fun w => span_any 2 5 w (by omega) (by omega) (by omega))
  have G : Hid (∀ w, Calls Tryd.prog 21 #[.int .i64 5, .int .i64 8, .int .i64 4] w fun e w' => e = .returned (.int .i64 2) ∧ w = w') := Lib.hid (fun w => class_any 5 8 4 w)
  have HT := Lib.hid hT
  clear hT
  go_enter Tryd.func10, Tryd.ntmps10
  go_wp2_with fail
  refine (A.out _).mono ?_; rintro e w1 ⟨rfl, rfl⟩
  go_wp2_with fail
  refine (B.out _).mono ?_; rintro e w1 ⟨rfl, rfl⟩
  go_wp2_with fail
  refine (C.out HT.out).mono ?_; rintro e w1 ⟨rfl, rfl⟩
  go_wp2_with fail
  refine (D.out _).mono ?_; rintro e w1 ⟨rfl, rfl⟩
  go_wp2_with fail
  refine (E.out HT.out).mono ?_; rintro e w1 ⟨rfl, rfl⟩
  go_wp2_with fail
  refine (F.out _).mono ?_; rintro e w1 ⟨rfl, rfl⟩
  go_wp2_with fail
  refine (G.out _).mono ?_; rintro e w1 ⟨rfl, rfl⟩
  go_wp2_with fail
  go_ret
  exact ⟨rfl, rfl⟩

set_option maxHeartbeats 400000 in
theorem WordsBits_any (w : World) (x : Nat) (hx : x < 18446744073709551616) (n : Int) (hn0 : -9223372036854775808 ≤ n) (hn1 : n ≤ 9223372036854775807) (hT : TabAt w) :
    Calls Tryd.prog 3 #[.int .u64 x, .int .i64 n] w fun e w' => e = .returned (.bool true) ∧ Only [] w w' := by
  have A := Lib.hid (awake_any w hT)
  have B := Lib.hid (high_any x w hx)
  have B' := Lib.hid (refHigh_any x w hx)
  have C := Lib.hid (low_any x w hx hT)
  have C' := Lib.hid (refLow_any x w hx)
  have D := Lib.hid (count_any x w hx)
  have D' := Lib.hid (refCount_any x w hx)
  have E := Lib.hid (nth_any x n w hx hT hn1)
  have E' := Lib.hid (refNth_any x n w hx hn0 hn1)
  have HT := Lib.hid hT
  have HX := Lib.hid hx
  have HR := Lib.hid (Only.refl [] w)
  generalize hiI x = r1 at B B'
  generalize loI x = r2 at C C'
  generalize cnt x = r3 at D D'
  generalize nthI x n = r4 at E E'
  clear hT hx hn0 hn1
  go_enter Tryd.func3, Tryd.ntmps3
  go_wp2_with fail
  refine A.out.mono ?_; rintro e w1 ⟨rfl, rfl⟩
  go_wp2_with fail
  refine B.out.mono ?_; rintro e w1 ⟨rfl, rfl⟩
  go_wp2_with fail
  refine B'.out.mono ?_; rintro e w1 ⟨rfl, rfl⟩
  go_wp2_with fail
  refine C.out.mono ?_; rintro e w1 ⟨rfl, rfl⟩
  go_wp2_with fail
  refine C'.out.mono ?_; rintro e w1 ⟨rfl, rfl⟩
  go_wp2_with fail
  refine D.out.mono ?_; rintro e w1 ⟨rfl, rfl⟩
  go_wp2_with fail
  refine D'.out.mono ?_; rintro e w1 ⟨rfl, rfl⟩
  go_wp2_with fail
  refine E.out.mono ?_; rintro e w1 ⟨rfl, rfl⟩
  go_wp2_with fail
  refine E'.out.mono ?_; rintro e w1 ⟨rfl, rfl⟩
  go_wp2_with fail
  go_loop [5] (fun t => ∃ z : Int, -1 ≤ z ∧ z ≤ 66 ∧ t = .int .i64 z) (fun t => (66 - intOf t).toNat)
  case atStart => exact ⟨-1, by omega, by omega, rfl⟩
  case round =>
    obtain ⟨z, hz1, hz2, rfl⟩ := hrel
    clear A B B' C C' D D' E E'
    by_cases hz : z < 66
    · have E := Lib.hid (nth_any x z w HX.out HT.out (by omega))
      have E' := Lib.hid (refNth_any x z w HX.out (by omega) (by omega))
      generalize nthI x z = r4 at E E'
      go_wp2_with fail
      refine E.out.mono ?_; rintro e w1 ⟨rfl, rfl⟩
      go_wp2_with fail
      refine E'.out.mono ?_; rintro e w1 ⟨rfl, rfl⟩
      go_wp2_with fail
      go_round
      case rel => exact ⟨z + 1, by omega, by omega, by go_num⟩
      case measure => simp [intOf]; omega
    · go_wp2_with fail
      go_ret
      exact ⟨rfl, HR.out⟩

theorem tmod_bd (d : Int) {n : Int} (h : 1 ≤ n) : -n < d.tmod n ∧ d.tmod n < n := by
  rw [Int.tmod_eq_emod]
  have h1 := Int.emod_nonneg d (show n ≠ 0 by omega)
  have h2 := Int.emod_lt_of_pos d (show 0 < n by omega)
  split <;> omega

theorem WordsSpans_any (w : World) (l : Int) (hl0 : -9223372036854775808 ≤ l) (hl1 : l ≤ 9223372036854775807) (h : Int) (hh0 : -9223372036854775808 ≤ h) (hh1 : h ≤ 9223372036854775807) (b : Bool) (hT : TabAt w) :
    Calls Tryd.prog 4 #[.int .i64 l, .int .i64 h, .bool b] w fun e w' => e = .returned (.bool true) ∧ Only [] w w' := by
  have A := Lib.hid (awake_any w hT)
  have HR := Lib.hid (Only.refl [] w)
  clear hT
  cases b with
  | false =>
    have B := Lib.hid (span_any l h w hl0 hl1 hh0)
    have B' := Lib.hid (refSpan_any l h w)
    generalize spanN l h = r at B B'
    clear hl0 hl1 hh0 hh1
    go_enter Tryd.func4, Tryd.ntmps4
    go_wp2_with fail
    refine A.out.mono ?_; rintro e w1 ⟨rfl, rfl⟩
    go_wp2_with fail
    refine B.out.mono ?_; rintro e w1 ⟨rfl, rfl⟩
    go_wp2_with fail
    refine B'.out.mono ?_; rintro e w1 ⟨rfl, rfl⟩
    go_wp2_with fail
    go_ret
    exact ⟨rfl, HR.out⟩
  | true =>
    have b1 := tmod_bd l (n := 70) (by omega)
    have b2 := tmod_bd h (n := 70) (by omega)
    have B := Lib.hid (span_any (l.tmod 70) (h.tmod 70) w (by omega) (by omega) (by omega))
    have B' := Lib.hid (refSpan_any (l.tmod 70) (h.tmod 70) w)
    generalize spanN (l.tmod 70) (h.tmod 70) = r at B B'
    clear hl0 hl1 hh0 hh1 b1 b2
    go_enter Tryd.func4, Tryd.ntmps4
    go_wp2_with fail
    refine A.out.mono ?_; rintro e w1 ⟨rfl, rfl⟩
    go_wp2_with fail
    refine B.out.mono ?_; rintro e w1 ⟨rfl, rfl⟩
    go_wp2_with fail
    refine B'.out.mono ?_; rintro e w1 ⟨rfl, rfl⟩
    go_wp2_with fail
    go_ret
    exact ⟨rfl, HR.out⟩
end Go.Proofs.YtmoegebikfchjaaDoor
