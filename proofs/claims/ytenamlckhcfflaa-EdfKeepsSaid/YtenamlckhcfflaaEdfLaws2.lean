/- Valid and the law EdfKeeps, walked. -/
import Derived.Test.YtenamlckhcfflaaEdfLaws
import Derived.Test.YtenamlckhcfflaaEdfHeap
namespace Go.Proofs.Ytenamlckhcfflaa
open Go.RowKit
set_option linter.unusedVariables false

theorem valid_true (w : World) (v : Value) (xs : List Int) (h : Sl w v xs) (hn : xs.length ≤ 1000000) (hh : Heap xs) :
    Calls Try.prog 16 #[v] w fun e w' => e = .returned (.bool true) ∧ Only [] w w' := by
  obtain ⟨ao, cap, rfl, h1, h2, h3⟩ := h
  obtain ⟨n, hnn⟩ : ∃ n, n = xs.length := ⟨_, rfl⟩
  rw [← hnn] at hn ⊢
  have HN := Lib.hid hnn
  have H1 := Lib.hid h1
  have HH := Lib.hid hh
  clear h1 h2 h3 hnn hh
  go_enter Try.func16, Try.ntmps16
  go_wp2_with fail
  go_loopw [3] (fun i wr => ∃ k : Nat, 1 ≤ k ∧ (k ≤ n ∨ k = 1) ∧ i = .int .i64 k ∧ Only [] w wr) (fun i _ => n - (intOf i).toNat)
  case atStart => exact ⟨1, by omega, .inr rfl, rfl, Only.refl _ _⟩
  case round =>
    obtain ⟨k, hk1, hk, rfl, hP⟩ := hrel
    have P := Lib.hid hP
    by_cases hlt : k < n
    · obtain ⟨b, off, rfl, hc⟩ := H1.out.ints (by have := HN.out; omega)
      have c0 := fun (q : Nat) => (hP.drewN q).keepCell (hc k (by have := HN.out; omega)) (by simp)
      have c1 := fun (q : Nat) => (hP.drewN q).keepCell (hc ((k - 1) / 2) (by have := HN.out; omega)) (by simp)
      have d0 := hP.keepCell (hc k (by have := HN.out; omega)) (by simp)
      have d1 := hP.keepCell (hc ((k - 1) / 2) (by have := HN.out; omega)) (by simp)
      have hle := HH.out k hk1 (by have := HN.out; omega)
      obtain ⟨x, hx⟩ : ∃ x, x = xs.getD k 0 := ⟨_, rfl⟩
      obtain ⟨y, hy⟩ : ∃ y, y = xs.getD ((k - 1) / 2) 0 := ⟨_, rfl⟩
      rw [← hx] at c0 d0 hle
      rw [← hy] at c1 d1 hle
      have e1 : ((k : Int) - 1) / 2 = (((k - 1) / 2 : Nat) : Int) := by omega
      obtain ⟨p, hp⟩ : ∃ p, p = (k - 1) / 2 := ⟨_, rfl⟩
      rw [← hp] at c1 d1 e1
      have hpn : p < n := by omega
      have hk1' : (1 : Int) ≤ k := by omega
      clear hc hx hy hp hP
      go_wp2_with fail
      go_quiet (fail)
      go_wp2_with fail
      go_roundw
      case rel => exact ⟨k + 1, by omega, by omega, by go_num, P.out.drewN _⟩
      case measure => simp [intOf]; omega
    · have hlt' : (n : Int) ≤ (k : Int) := by omega
      clear hP
      go_wp2_with fail
      go_ret
      exact ⟨rfl, P.out⟩

set_option maxHeartbeats 800000 in
theorem keeps_at (w : World) (ao : Option Addr) (cap n : Nat) (xs : List Int) (h : CellsAt w ao (xs.map (.int .u64))) (hn : n = xs.length) (hnn : n ≤ 9223372036854775807) :
    Calls Try.prog 5 #[.slice ao n cap] w fun e w' => e = .returned (.bool true) ∧ Only [] w w' := by
  have HN := Lib.hid hn
  have H := Lib.hid h
  clear h hn
  by_cases hbig : 400 < n
  · go_enter Try.func5, Try.ntmps5
    go_wp2_with fail
    go_ret
    exact ⟨rfl, Only.refl _ _⟩
  · have R0 := Lib.hid (Only.refl [] w)
    go_enter Try.func5, Try.ntmps5
    go_wp2_with fail
    go_loopw [3, 4, 5] (fun hv nv i wr => ∃ (k m : Nat) (hs : List Int), k ≤ n ∧ m ≤ k ∧ i = .int .i64 k ∧ nv = .int .i64 m ∧ m = hs.length ∧ Sl wr hv hs ∧ Heap hs ∧ Only [] w wr) (fun _ _ i _ => n - (intOf i).toNat)
    case atStart => exact ⟨0, 0, [], by omega, by omega, rfl, rfl, rfl, Sl.nil _, nil_heap, R0.out⟩
    case round =>
      obtain ⟨k, m, hs, hk, hmk, rfl, rfl, hm, hS, hH, hP⟩ := hrel
      have HM := Lib.hid hm
      have S := Lib.hid hS
      have HH := Lib.hid hH
      have P := Lib.hid hP
      clear hm hS hH hP R0
      by_cases hlt : k < n
      · obtain ⟨b, off, rfl, hc⟩ := H.out.ints (by have := HN.out; omega)
        have c0 := P.out.keepCell (hc k (by have := HN.out; omega)) (by simp)
        obtain ⟨x, hx⟩ : ∃ x, x = xs.getD k 0 := ⟨_, rfl⟩
        rw [← hx] at c0
        clear hc hx
        by_cases hodd : x.tmod 2 = 1
        · have B := Lib.hid (push_sl wr u3 hs x S.out (by have := HM.out; omega))
          go_wp2_with fail
          refine B.out.mono ?_; rintro e w1 ⟨v, rfl, o1, s1⟩
          have S1 := Lib.hid s1
          have P1 := Lib.hid (P.out.then0 o1)
          obtain ⟨ao1, cap1, hv, _⟩ := s1
          rw [pushL_length, ← HM.out] at hv
          subst hv
          have V := Lib.hid (valid_true w1 _ _ S1.out (by rw [pushL_length]; have := HM.out; omega) (push_heap hs x HH.out))
          clear B o1
          go_wp2_with fail
          refine V.out.mono ?_; rintro e w2 ⟨rfl, o2⟩
          have S2 := Lib.hid (S1.out.keep o2)
          have P2 := Lib.hid (P1.out.then0 o2)
          clear o2
          go_wp2_with fail
          go_roundw
          case rel => exact ⟨k + 1, m + 1, pushL hs x, by omega, by omega, by go_num, by go_num, by rw [pushL_length, HM.out], S2.out, push_heap hs x HH.out, P2.out⟩
          case measure => simp [intOf]; omega
        · have B := Lib.hid (pop_sl wr u3 hs S.out (by have := HM.out; omega))
          have hodd' : (x.tmod 2 == 1) = false := by simpa using hodd
          have hge := fun j => pop_ge hs HH.out j
          obtain ⟨k0, hk0⟩ : ∃ k0, k0 = hs.getD 0 0 := ⟨_, rfl⟩
          rw [← hk0] at B hge
          have HG := Lib.hid hge
          clear hk0 hge
          rcases Nat.eq_zero_or_pos m with hm0 | hm0
          · rw [← HM.out, hm0, show decide (0 < 0) = false from rfl] at B
            subst hm0
            go_wp2_with fail
            refine B.out.mono ?_; rintro e w1 ⟨v, rfl, o1, s1⟩
            have S1 := Lib.hid s1
            have P1 := Lib.hid (P.out.then0 o1)
            obtain ⟨ao1, cap1, hv, _⟩ := s1
            rw [popL_length, ← HM.out] at hv
            subst hv
            have V := Lib.hid (valid_true w1 _ _ S1.out (by rw [popL_length]; have := HM.out; omega) (pop_heap hs HH.out))
            clear B o1
            go_wp2_with fail
            go_loop [9] (fun j => j = .int .i64 (0 : Nat)) (fun _ => 0)
            case atStart => exact rfl
            case round =>
              subst hrel
              go_wp2_with fail
              refine V.out.mono ?_; rintro e w2 ⟨rfl, o2⟩
              have S2 := Lib.hid (S1.out.keep o2)
              have P2 := Lib.hid (P1.out.then0 o2)
              clear o2
              go_wp2_with fail
              go_roundw
              case rel => exact ⟨k + 1, 0, popL hs, by omega, by omega, by go_num, rfl, by rw [popL_length, ← HM.out], S2.out, pop_heap hs HH.out, P2.out⟩
              case measure => simp [intOf]; omega
          · rw [← HM.out, decide_eq_true hm0] at B
            have hm1 : (0 : Int) < m := by omega
            obtain ⟨q, rfl⟩ : ∃ q, m = q + 1 := ⟨m - 1, by omega⟩
            go_wp2_with fail
            refine B.out.mono ?_; rintro e w1 ⟨v, rfl, o1, s1⟩
            have S1 := Lib.hid s1
            have P1 := Lib.hid (P.out.then0 o1)
            obtain ⟨ao1, cap1, hv, hcl, _⟩ := s1
            rw [popL_length, ← HM.out, Nat.add_sub_cancel] at hv
            subst hv
            have CL := Lib.hid hcl
            have HQ : Hid ((popL hs).length = q) := Lib.hid (by rw [popL_length, ← HM.out, Nat.add_sub_cancel])
            have V := Lib.hid (valid_true w1 _ _ S1.out (by rw [popL_length]; have := HM.out; omega) (pop_heap hs HH.out))
            clear B o1 hcl
            go_wp2_with fail
            go_loop [9] (fun j => ∃ p : Nat, p ≤ q ∧ j = .int .i64 p) (fun j => q - (intOf j).toNat)
            case atStart => exact ⟨0, by omega, rfl⟩
            case round =>
              obtain ⟨p, hp, rfl⟩ := hrel
              by_cases hpq : p < q
              · obtain ⟨b1, off1, rfl, hc1⟩ := CL.out.ints (by have := HQ.out; omega)
                have d0 := hc1 p (by have := HQ.out; omega)
                have d1 := HG.out p (by have := HQ.out; omega)
                obtain ⟨z, hz⟩ : ∃ z, z = (popL hs).getD p 0 := ⟨_, rfl⟩
                rw [← hz] at d0 d1
                clear hc1 hz
                go_wp2_with fail
                go_round
                case rel => exact ⟨p + 1, by omega, by go_num⟩
                case measure => simp [intOf]; omega
              · obtain rfl : p = q := by omega
                go_wp2_with fail
                refine V.out.mono ?_; rintro e w2 ⟨rfl, o2⟩
                have S2 := Lib.hid (S1.out.keep o2)
                have P2 := Lib.hid (P1.out.then0 o2)
                clear o2
                go_wp2_with fail
                go_roundw
                case rel => exact ⟨k + 1, p, popL hs, by omega, by omega, by go_num, congrArg (Value.int .i64) (by omega), HQ.out.symm, S2.out, pop_heap hs HH.out, P2.out⟩
                case measure => simp [intOf]; omega
      · have AW := Lib.hid (awake_any wr)
        go_wp2_with fail
        refine AW.out.mono ?_; rintro e w1 ⟨rfl, o1⟩
        have P1 := Lib.hid (P.out.then0 o1)
        clear o1
        go_wp2_with fail
        go_ret
        exact ⟨rfl, P1.out⟩

theorem EdfKeeps_any (w : World) (v : Value) (xs : List Int) (h : Sl w v xs) (hm : xs.length ≤ 9223372036854775807) :
    Calls Try.prog 5 #[v] w fun e w' => e = .returned (.bool true) ∧ Only [] w w' := by
  obtain ⟨ao, cap, rfl, h1, _, _⟩ := h
  exact keeps_at w ao cap _ xs h1 rfl hm
end Go.Proofs.Ytenamlckhcfflaa
