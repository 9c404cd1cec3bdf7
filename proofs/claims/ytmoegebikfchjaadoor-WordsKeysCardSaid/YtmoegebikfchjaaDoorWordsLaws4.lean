/- The law WordsClasses of chapter 1, walked. -/
import Derived.Test.YtmoegebikfchjaaDoorWordsLaws
import Derived.Test.YtmoegebikfchjaaDoorWordsPlain3
namespace Go.Proofs.YtmoegebikfchjaaDoor
open Go.RowKit
set_option linter.unusedVariables false

set_option maxHeartbeats 4000000 in
theorem WordsClasses_plain (w : World) (v n c : Int) (hT : TabAt w) :
    Calls Tryd.prog 7 #[.int .i64 v, .int .i64 n, .int .i64 c, .bool false] w fun e w' => e = .returned (.bool true) ∧ Only [] w w' := by
  have A := Lib.hid (awake_any w hT)
  have HR := Lib.hid (Only.refl [] w)
  have P := fun w => Lib.hid (class_any v n c w)
  have R := fun w => Lib.hid (refClass_any v n c w)
  generalize classI v n c = r0 at P R
  clear hT
  by_cases g : 1 ≤ n ∧ n ≤ 64 ∧ 1 ≤ c ∧ c ≤ n ∧ c ≤ 8
  · obtain ⟨hn1, hn2, hc1, hcn, hc2⟩ := g
    go_enter Tryd.func7, Tryd.ntmps7
    go_wp2_with fail
    refine A.out.mono ?_; rintro e w1 ⟨rfl, rfl⟩
    go_wp2_with fail
    refine (P _).out.mono ?_; rintro e w1 ⟨rfl, rfl⟩
    go_wp2_with fail
    refine (R _).out.mono ?_; rintro e w1 ⟨rfl, rfl⟩
    go_wp2_with fail
    go_loop [9, 10] (fun ls t => ∃ (k : Nat) (q : Int), (k : Int) ≤ n ∧ t = .int .i64 k ∧ ls = .int .i64 q ∧ 0 ≤ q ∧ q ≤ 8 ∧ ((k = 0 ∧ q = 0) ∨ (1 ≤ k ∧ q = ((k : Int) - 1) * c / n))) (fun _ t => (n - intOf t).toNat)
    case atStart => exact ⟨0, 0, by omega, rfl, rfl, by omega, by omega, .inl ⟨rfl, rfl⟩⟩
    case round =>
      obtain ⟨k, q, hk, rfl, rfl, hq0, hq1, hq⟩ := hrel
      have HQ := Lib.hid hq
      clear hq A P R
      by_cases hkn : (k : Int) < n
      · have B := Lib.hid (class_in k n c w hn1 hn2 hc1 hc2 (by omega) hkn)
        have hr : q ≤ (k : Int) * c / n ∧ (k : Int) * c / n ≤ q + 1 := by
          rcases HQ.out with ⟨h1, h2⟩ | ⟨h1, h2⟩
          · subst h1; subst h2; simp
          · have := class_step (l := (k : Int) - 1) (n := n) (c := c) hn1 hc1 hcn
            rw [show (k : Int) - 1 + 1 = k by omega, ← h2] at this
            exact this
        have hr8 : (k : Int) * c / n ≤ 7 := by
          have h1 : (k : Int) * c ≤ (n - 1) * c := Int.mul_le_mul_of_nonneg_right (by omega) (by omega)
          have h2 := Int.ediv_le_ediv (c := n) (by omega) h1
          rw [class_end hn1 hc1 hcn] at h2
          omega
        have HE : Hid (∃ r, r = (k : Int) * c / n) := Lib.hid ⟨_, rfl⟩
        obtain ⟨r, hre⟩ := HE.out
        rw [← hre] at B hr hr8
        have HRE := Lib.hid hre
        obtain ⟨hr1, hr2⟩ := hr
        clear hre HE
        go_wp2_with fail
        refine B.out.mono ?_; rintro e w1 ⟨rfl, rfl⟩
        go_wp2_with fail
        go_round
        case rel => exact ⟨k + 1, r, by omega, by go_num, rfl, by omega, by omega, .inr ⟨by omega, by rw [HRE.out, show (((k + 1 : Nat) : Int) - 1) = (k : Int) by omega]⟩⟩
        case measure => simp [intOf]; omega
      · have B := Lib.hid (class_in 0 n c w hn1 hn2 hc1 hc2 (by omega) (by omega))
        rw [Int.zero_mul, Int.zero_ediv] at B
        have hqc : q = c - 1 := by
          rcases HQ.out with ⟨h1, h2⟩ | ⟨h1, h2⟩
          · omega
          · rw [h2, show (k : Int) = n by omega]; exact class_end hn1 hc1 hcn
        subst hqc
        go_wp2_with fail
        refine B.out.mono ?_; rintro e w1 ⟨rfl, rfl⟩
        go_wp2_with fail
        go_ret
        exact ⟨rfl, HR.out⟩
  · by_cases g1 : n < 1
    · clear g
      go_enter Tryd.func7, Tryd.ntmps7
      go_wp2_with fail
      refine A.out.mono ?_; rintro e w1 ⟨rfl, rfl⟩
      go_wp2_with fail
      refine (P _).out.mono ?_; rintro e w1 ⟨rfl, rfl⟩
      go_wp2_with fail
      refine (R _).out.mono ?_; rintro e w1 ⟨rfl, rfl⟩
      go_wp2_with fail
      all_goals go_ret
      all_goals exact ⟨rfl, HR.out⟩
    · by_cases g2 : 64 < n
      · clear g
        go_enter Tryd.func7, Tryd.ntmps7
        go_wp2_with fail
        refine A.out.mono ?_; rintro e w1 ⟨rfl, rfl⟩
        go_wp2_with fail
        refine (P _).out.mono ?_; rintro e w1 ⟨rfl, rfl⟩
        go_wp2_with fail
        refine (R _).out.mono ?_; rintro e w1 ⟨rfl, rfl⟩
        go_wp2_with fail
        all_goals go_ret
        all_goals exact ⟨rfl, HR.out⟩
      · by_cases g3 : c < 1
        · clear g
          go_enter Tryd.func7, Tryd.ntmps7
          go_wp2_with fail
          refine A.out.mono ?_; rintro e w1 ⟨rfl, rfl⟩
          go_wp2_with fail
          refine (P _).out.mono ?_; rintro e w1 ⟨rfl, rfl⟩
          go_wp2_with fail
          refine (R _).out.mono ?_; rintro e w1 ⟨rfl, rfl⟩
          go_wp2_with fail
          all_goals go_ret
          all_goals exact ⟨rfl, HR.out⟩
        · by_cases g4 : n < c
          · clear g
            go_enter Tryd.func7, Tryd.ntmps7
            go_wp2_with fail
            refine A.out.mono ?_; rintro e w1 ⟨rfl, rfl⟩
            go_wp2_with fail
            refine (P _).out.mono ?_; rintro e w1 ⟨rfl, rfl⟩
            go_wp2_with fail
            refine (R _).out.mono ?_; rintro e w1 ⟨rfl, rfl⟩
            go_wp2_with fail
            all_goals go_ret
            all_goals exact ⟨rfl, HR.out⟩
          · have g5 : 8 < c := by omega
            clear g
            go_enter Tryd.func7, Tryd.ntmps7
            go_wp2_with fail
            refine A.out.mono ?_; rintro e w1 ⟨rfl, rfl⟩
            go_wp2_with fail
            refine (P _).out.mono ?_; rintro e w1 ⟨rfl, rfl⟩
            go_wp2_with fail
            refine (R _).out.mono ?_; rintro e w1 ⟨rfl, rfl⟩
            go_wp2_with fail
            all_goals go_ret
            all_goals exact ⟨rfl, HR.out⟩

set_option maxHeartbeats 4000000 in
theorem WordsClasses_near (w : World) (v0 n0 c0 : Int) (hT : TabAt w) :
    Calls Tryd.prog 7 #[.int .i64 v0, .int .i64 n0, .int .i64 c0, .bool true] w fun e w' => e = .returned (.bool true) ∧ Only [] w w' := by
  have A := Lib.hid (awake_any w hT)
  have HR := Lib.hid (Only.refl [] w)
  obtain ⟨b11, b12⟩ := tmod_bd n0 (n := 64) (by omega)
  obtain ⟨b21, b22⟩ := tmod_bd c0 (n := 8) (by omega)
  obtain ⟨b31, b32⟩ := tmod_bd v0 (n := 70) (by omega)
  generalize h1 : n0.tmod 64 = tn at *
  generalize h2 : c0.tmod 8 = tc at *
  generalize h3 : v0.tmod 70 = tv at *
  obtain ⟨N, hN⟩ : ∃ N, (tn + 64) % 64 = N := ⟨_, rfl⟩
  obtain ⟨C, hC⟩ : ∃ C, (tc + 8) % 8 = C := ⟨_, rfl⟩
  obtain ⟨V, hV⟩ : ∃ V, (tv + 70) % 70 = V := ⟨_, rfl⟩
  obtain ⟨n, hn⟩ : ∃ n, 1 + N = n := ⟨_, rfl⟩
  obtain ⟨c, hc⟩ : ∃ c, 1 + C = c := ⟨_, rfl⟩
  obtain ⟨v, hv⟩ : ∃ v, V - 3 = v := ⟨_, rfl⟩
  have B1 : 0 ≤ N := by omega
  have B2 : N ≤ 63 := by omega
  have B3 : 0 ≤ C := by omega
  have B4 : C ≤ 7 := by omega
  have B5 : 0 ≤ V := by omega
  have B6 : V ≤ 69 := by omega
  have n1 : 1 ≤ n := by omega
  have n2 : n ≤ 64 := by omega
  have c1 : 1 ≤ c := by omega
  have c2 : c ≤ 8 := by omega
  have P := fun w => Lib.hid (class_any v n c w)
  have R := fun w => Lib.hid (refClass_any v n c w)
  generalize classI v n c = r0 at P R
  clear hT
  by_cases g : 1 ≤ n ∧ n ≤ 64 ∧ 1 ≤ c ∧ c ≤ n ∧ c ≤ 8
  · obtain ⟨hn1, hn2, hc1, hcn, hc2⟩ := g
    go_enter Tryd.func7, Tryd.ntmps7
    go_wp2_with fail
    refine A.out.mono ?_; rintro e w1 ⟨rfl, rfl⟩
    go_wp2_with fail
    refine (P _).out.mono ?_; rintro e w1 ⟨rfl, rfl⟩
    go_wp2_with fail
    refine (R _).out.mono ?_; rintro e w1 ⟨rfl, rfl⟩
    go_wp2_with fail
    go_loop [9, 10] (fun ls t => ∃ (k : Nat) (q : Int), (k : Int) ≤ n ∧ t = .int .i64 k ∧ ls = .int .i64 q ∧ 0 ≤ q ∧ q ≤ 8 ∧ ((k = 0 ∧ q = 0) ∨ (1 ≤ k ∧ q = ((k : Int) - 1) * c / n))) (fun _ t => (n - intOf t).toNat)
    case atStart => exact ⟨0, 0, by omega, rfl, rfl, by omega, by omega, .inl ⟨rfl, rfl⟩⟩
    case round =>
      obtain ⟨k, q, hk, rfl, rfl, hq0, hq1, hq⟩ := hrel
      have HQ := Lib.hid hq
      clear hq A P R
      by_cases hkn : (k : Int) < n
      · have B := Lib.hid (class_in k n c w hn1 hn2 hc1 hc2 (by omega) hkn)
        have hr : q ≤ (k : Int) * c / n ∧ (k : Int) * c / n ≤ q + 1 := by
          rcases HQ.out with ⟨h1, h2⟩ | ⟨h1, h2⟩
          · subst h1; subst h2; simp
          · have := class_step (l := (k : Int) - 1) (n := n) (c := c) hn1 hc1 hcn
            rw [show (k : Int) - 1 + 1 = k by omega, ← h2] at this
            exact this
        have hr8 : (k : Int) * c / n ≤ 7 := by
          have h1 : (k : Int) * c ≤ (n - 1) * c := Int.mul_le_mul_of_nonneg_right (by omega) (by omega)
          have h2 := Int.ediv_le_ediv (c := n) (by omega) h1
          rw [class_end hn1 hc1 hcn] at h2
          omega
        have HE : Hid (∃ r, r = (k : Int) * c / n) := Lib.hid ⟨_, rfl⟩
        obtain ⟨r, hre⟩ := HE.out
        rw [← hre] at B hr hr8
        have HRE := Lib.hid hre
        obtain ⟨hr1, hr2⟩ := hr
        clear hre HE
        go_wp2_with fail
        refine B.out.mono ?_; rintro e w1 ⟨rfl, rfl⟩
        go_wp2_with fail
        go_round
        case rel => exact ⟨k + 1, r, by omega, by go_num, rfl, by omega, by omega, .inr ⟨by omega, by rw [HRE.out, show (((k + 1 : Nat) : Int) - 1) = (k : Int) by omega]⟩⟩
        case measure => simp [intOf]; omega
      · have B := Lib.hid (class_in 0 n c w hn1 hn2 hc1 hc2 (by omega) (by omega))
        rw [Int.zero_mul, Int.zero_ediv] at B
        have hqc : q = c - 1 := by
          rcases HQ.out with ⟨h1, h2⟩ | ⟨h1, h2⟩
          · omega
          · rw [h2, show (k : Int) = n by omega]; exact class_end hn1 hc1 hcn
        subst hqc
        go_wp2_with fail
        refine B.out.mono ?_; rintro e w1 ⟨rfl, rfl⟩
        go_wp2_with fail
        go_ret
        exact ⟨rfl, HR.out⟩
  · by_cases g1 : n < 1
    · clear g
      go_enter Tryd.func7, Tryd.ntmps7
      go_wp2_with fail
      refine A.out.mono ?_; rintro e w1 ⟨rfl, rfl⟩
      go_wp2_with fail
      refine (P _).out.mono ?_; rintro e w1 ⟨rfl, rfl⟩
      go_wp2_with fail
      refine (R _).out.mono ?_; rintro e w1 ⟨rfl, rfl⟩
      go_wp2_with fail
      all_goals go_ret
      all_goals exact ⟨rfl, HR.out⟩
    · by_cases g2 : 64 < n
      · clear g
        go_enter Tryd.func7, Tryd.ntmps7
        go_wp2_with fail
        refine A.out.mono ?_; rintro e w1 ⟨rfl, rfl⟩
        go_wp2_with fail
        refine (P _).out.mono ?_; rintro e w1 ⟨rfl, rfl⟩
        go_wp2_with fail
        refine (R _).out.mono ?_; rintro e w1 ⟨rfl, rfl⟩
        go_wp2_with fail
        all_goals go_ret
        all_goals exact ⟨rfl, HR.out⟩
      · by_cases g3 : c < 1
        · clear g
          go_enter Tryd.func7, Tryd.ntmps7
          go_wp2_with fail
          refine A.out.mono ?_; rintro e w1 ⟨rfl, rfl⟩
          go_wp2_with fail
          refine (P _).out.mono ?_; rintro e w1 ⟨rfl, rfl⟩
          go_wp2_with fail
          refine (R _).out.mono ?_; rintro e w1 ⟨rfl, rfl⟩
          go_wp2_with fail
          all_goals go_ret
          all_goals exact ⟨rfl, HR.out⟩
        · by_cases g4 : n < c
          · clear g
            go_enter Tryd.func7, Tryd.ntmps7
            go_wp2_with fail
            refine A.out.mono ?_; rintro e w1 ⟨rfl, rfl⟩
            go_wp2_with fail
            refine (P _).out.mono ?_; rintro e w1 ⟨rfl, rfl⟩
            go_wp2_with fail
            refine (R _).out.mono ?_; rintro e w1 ⟨rfl, rfl⟩
            go_wp2_with fail
            all_goals go_ret
            all_goals exact ⟨rfl, HR.out⟩
          · have g5 : 8 < c := by omega
            clear g
            go_enter Tryd.func7, Tryd.ntmps7
            go_wp2_with fail
            refine A.out.mono ?_; rintro e w1 ⟨rfl, rfl⟩
            go_wp2_with fail
            refine (P _).out.mono ?_; rintro e w1 ⟨rfl, rfl⟩
            go_wp2_with fail
            refine (R _).out.mono ?_; rintro e w1 ⟨rfl, rfl⟩
            go_wp2_with fail
            all_goals go_ret
            all_goals exact ⟨rfl, HR.out⟩

theorem WordsClasses_any (w : World) (v n c : Int) (b : Bool) (hT : TabAt w) :
    Calls Tryd.prog 7 #[.int .i64 v, .int .i64 n, .int .i64 c, .bool b] w fun e w' => e = .returned (.bool true) ∧ Only [] w w' := by
  cases b with
  | false => exact WordsClasses_plain w v n c hT
  | true => exact WordsClasses_near w v n c hT
end Go.Proofs.YtmoegebikfchjaaDoor
