/- EdfValid, walked. -/
import Derived.Test.YtenamlckhcfflaaEdfRefSorted
namespace Go.Proofs.Ytenamlckhcfflaa
open Go.RowKit Go.Sort
set_option linter.unusedVariables false

theorem bool_eq_of_iff {a b : Bool} {P : Prop} (h1 : a = true ↔ P) (h2 : b = true ↔ P) : a = b := by
  cases a <;> cases b
  · rfl
  · exact (h1.2 (h2.1 rfl))
  · exact (h2.2 (h1.1 rfl)).symm
  · rfl

set_option maxRecDepth 100000 in
set_option maxHeartbeats 2000000 in
theorem EdfValid_any (w : World) (v : Value) (xs : List Int) (h : Sl w v xs) (hm : xs.length ≤ 9223372036854775807) :
    Calls Try.prog 8 #[v] w fun e w' => e = .returned (.bool true) ∧ Only [] w w' := by
  have H := Lib.hid h
  obtain ⟨ao, cap, rfl, _, _, _⟩ := h
  obtain ⟨n, hnn⟩ : ∃ n, n = xs.length := ⟨_, rfl⟩
  rw [← hnn] at hm H ⊢
  have HN := Lib.hid hnn
  clear hnn
  by_cases hbig : n ≤ 400
  · have hb : ¬ (400 : Int) < n := by omega
    have S1 := Lib.hid (sorted_sl w _ xs H.out (by have := HN.out; omega))
    go_enter Try.func8, Try.ntmps8
    go_wp2_with fail
    refine S1.out.mono ?_; rintro e w1 ⟨s, rfl, o1, hs, _⟩
    have O1 := Lib.hid o1
    have HS := Lib.hid hs
    clear o1 hs S1
    go_wp2_with fail
    refine (awake_any w1).mono ?_; rintro e w2 ⟨rfl, o2⟩
    have O2 := Lib.hid (O1.out.then0 o2)
    have HS2 := Lib.hid (HS.out.keep o2)
    clear o2
    go_wp2_with fail
    refine (valid_any w2 _ xs (H.out.keep O2.out) (by have := HN.out; omega)).mono ?_; rintro e w3 ⟨r1, rfl, hr1, o3⟩
    have O3 := Lib.hid (O2.out.then0 o3)
    have HS3 := Lib.hid (HS2.out.keep o3)
    have HR1 := Lib.hid hr1
    clear o3 hr1
    go_wp2_with fail
    refine (refValid_any w3 _ xs (H.out.keep O3.out) (by have := HN.out; omega)).mono ?_; rintro e w4 ⟨r2, rfl, hr2, o4⟩
    have O4 := Lib.hid (O3.out.then0 o4)
    have HS4 := Lib.hid (HS3.out.keep o4)
    obtain rfl := bool_eq_of_iff HR1.out hr2
    clear o4 hr2 HR1
    go_wp2_with fail
    refine (few_sl w4 _ xs (H.out.keep O4.out) (by have := HN.out; omega)).mono ?_; rintro e w5 ⟨f1, rfl, o5, hf1⟩
    have O5 := Lib.hid (O4.out.then0 o5)
    have HS5 := Lib.hid (HS4.out.keep o5)
    have F1 := Lib.hid hf1
    clear o5 hf1
    go_wp2_with fail
    refine (valid_any w5 _ _ F1.out (by rw [few8_length]; have := HN.out; omega)).mono ?_; rintro e w6 ⟨r3, rfl, hr3, o6⟩
    have O6 := Lib.hid (O5.out.then0 o6)
    have HS6 := Lib.hid (HS5.out.keep o6)
    have HR3 := Lib.hid hr3
    clear o6 hr3
    go_wp2_with fail
    refine (few_sl w6 _ xs (H.out.keep O6.out) (by have := HN.out; omega)).mono ?_; rintro e w7 ⟨f2, rfl, o7, hf2⟩
    have O7 := Lib.hid (O6.out.then0 o7)
    have HS7 := Lib.hid (HS6.out.keep o7)
    have F2 := Lib.hid hf2
    clear o7 hf2
    go_wp2_with fail
    refine (refValid_any w7 _ _ F2.out (by rw [few8_length]; have := HN.out; omega)).mono ?_; rintro e w8 ⟨r4, rfl, hr4, o8⟩
    have O8 := Lib.hid (O7.out.then0 o8)
    have HS8 := Lib.hid (HS7.out.keep o8)
    obtain rfl := bool_eq_of_iff HR3.out hr4
    clear o8 hr4 HR3
    go_wp2_with fail
    refine (refSorted_sl w8 _ xs (H.out.keep O8.out) (by have := HN.out; omega)).mono ?_; rintro e w9 ⟨u, rfl, o9, hu⟩
    have O9 := Lib.hid (O8.out.then0 o9)
    have HS9 := Lib.hid (HS8.out.keep o9)
    have HU := Lib.hid hu
    clear o9 hu
    go_wp2_with fail
    refine (same_sl w9 _ _ _ _ HS9.out HU.out rfl (by rw [sortR_length]; have := HN.out; omega)).mono ?_; rintro e w10 ⟨rfl, o10⟩
    have O10 := Lib.hid (O9.out.then0 o10)
    have HS10 := Lib.hid (HS9.out.keep o10)
    clear o10
    go_wp2_with fail
    refine (valid_any w10 _ _ HS10.out (by rw [sortR_length]; have := HN.out; omega)).mono ?_; rintro e w11 ⟨r5, rfl, hr5, o11⟩
    have O11 := Lib.hid (O10.out.then0 o11)
    obtain rfl := hr5.2 (heap_of_sorted (sortR_sorted xs))
    clear o11 hr5
    go_wp2_with fail
    go_ret
    exact ⟨rfl, O11.out⟩
  · have hb : (400 : Int) < n := by omega
    go_enter Try.func8, Try.ntmps8
    go_wp2_with fail
    go_ret
    exact ⟨rfl, Only.refl _ _⟩

end Go.Proofs.Ytenamlckhcfflaa
