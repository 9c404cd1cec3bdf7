/- The number of tasks that events accept or spawn, by the reference. No condition beside those named. -/
import Derived.Test.YtncnepmgmphanaaGreatDoorMg27
import Derived.Test.YtncnepmgmphanaaGreatDoorMg25
import Derived.Test.YtncnepmgmphanaaGreatDoorMg26
import Derived.Deep.DeepCutAuto
set_option linter.unusedVariables false
set_option linter.unusedSimpArgs false
set_option linter.unusedSectionVars false
namespace Go.Proofs.YtncnepmgmphanaaGreatDoor
open Go.RowKit
set_option maxRecDepth 100000 in
set_option maxHeartbeats 4000000 in
theorem refTasks_any (w : World) (v : Value) (l : List Evt) (h : EL w v l) (hn : l.length ≤ 1000000) :
    Calls Tryz.prog 25 #[v] w fun e w' => e = .returned (.int .i64 (cntT l)) ∧ Only [] w w' := by
  obtain ⟨ao, cap, rfl, hc, hh⟩ := h
  obtain ⟨n, hnn⟩ : ∃ n, n = l.length := ⟨_, rfl⟩
  have HN := Lib.hid hnn
  have HC := Lib.hid hh
  rw [← hnn] at hn hc ⊢
  clear hh hnn
  go_enter Tryz.func25, Tryz.ntmps25
  go_wp2_with fail
  go_loopg [3, 4] (n + 1) (fun g s3 s4 wr => ∃ k : Nat, s4 = .int .i64 k ∧ k + g = n + 1 ∧ k ≤ n ∧ s3 = .int .i64 (cntT (l.take k)) ∧ Only [] w wr)
  case atStart => exact ⟨0, rfl, by omega, by omega, rfl, Only.refl _ _⟩
  case round =>
    obtain ⟨k, rfl, hg0, hk, rfl, ho⟩ := hrel
    have OW := Lib.hid ho
    clear ho
    by_cases hkn : k < n
    · obtain ⟨b, off, rfl, hg⟩ := HC.out (by rw [← HN.out]; omega)
      have HG := Lib.hid hg
      have hx := (hg k (by rw [← HN.out]; exact hkn)).keep OW.out
      obtain ⟨x, hxx⟩ : ∃ x, x = l.getD k Evt.zero := ⟨_, rfl⟩
      have HX := Lib.hid hxx
      have HT := Lib.hid (show l.take (k + 1) = l.take k ++ [x] from by rw [hxx]; exact take_snoc_getD l _ k (by rw [← HN.out]; exact hkn))
      rw [← hxx] at hx
      obtain ⟨K, a, tk, ot, lv⟩ := x
      obtain ⟨c0, -, -, -, -⟩ := hx
      simp only at c0
      have hk1 : (0 : Int) ≤ (k : Int) := by omega
      have hk2 : (k : Int) < (n : Int) := by omega
      clear hg hxx
      by_cases h1 : K = 1
      · subst h1
        have HI := Lib.hid (isT_1 (e := ⟨1, a, tk, ot, lv⟩) rfl)
        go_wp2_with fail
        go_loopg [5, 6] (k + 1) (fun g s5 s6 wi => ∃ j : Nat, s6 = .int .i64 j ∧ j + g = k + 1 ∧ j ≤ k ∧ s5 = .bool (!hasT (l.take j) tk) ∧ Only [] w wi)
        case atStart => exact ⟨0, rfl, by omega, by omega, rfl, OW.out⟩
        case round =>
          obtain ⟨j, rfl, hgj, hj, rfl, hoj⟩ := hrel
          have OJ := Lib.hid hoj
          clear hoj
          by_cases hjk : j < k
          · have hj1 : (0 : Int) ≤ (j : Int) := by omega
            have hj2 : (j : Int) < (k : Int) := by omega
            have hj3 : (j : Int) < (n : Int) := by omega
            have hy := (HG.out j (by rw [← HN.out]; omega)).keep OJ.out
            have hz := (HG.out k (by rw [← HN.out]; exact hkn)).keep OJ.out
            rw [← HX.out] at hz
            obtain ⟨y, hyy⟩ : ∃ y, y = l.getD j Evt.zero := ⟨_, rfl⟩
            have HTJ := Lib.hid (show l.take (j + 1) = l.take j ++ [y] from by rw [hyy]; exact take_snoc_getD l _ j (by rw [← HN.out]; omega))
            rw [← hyy] at hy
            obtain ⟨YK, ya, yt, yo, yl⟩ := y
            obtain ⟨d0, -, d2, -, -⟩ := hy
            obtain ⟨-, -, e2, -, -⟩ := hz
            simp only at d0 d2 e2
            clear hyy
            have REL : ∀ b : Bool, b = hasT (l.take (j + 1)) tk → ∀ wi, Only [] w wi → ∃ j_1 : Nat, Value.int .i64 ((j : Int) + 1) = .int .i64 j_1 ∧ j_1 + (k - j) = k + 1 ∧ j_1 ≤ k ∧ Value.bool (!b) = .bool (!hasT (l.take j_1) tk) ∧ Only [] w wi := fun b hb wi ho => ⟨j + 1, by first | rfl | (congr 1; omega), by omega, by omega, by rw [hb], ho⟩
            have RELH := Lib.hid REL
            clear REL
            obtain ⟨h, hh⟩ : ∃ h, h = hasT (l.take j) tk := ⟨_, rfl⟩
            have HH := Lib.hid hh
            rw [← hh]
            clear hh
            cases h with
            | true =>
              have FIN := RELH.out true (by
                by_cases hne : yt = tk
                · by_cases hi : isT ⟨YK, ya, yt, yo, yl⟩ = true
                  · rw [HTJ.out, hasT_eq hi hne]
                  · rw [HTJ.out, hasT_no (by simpa using hi), ← HH.out]
                · rw [HTJ.out, hasT_ne hne, ← HH.out])
              have FINH := Lib.hid FIN
              clear FIN
              simp only [Bool.not_true] at FINH ⊢
              go_wp2_with fail
              go_region
              go_wp2_with fail
              go_roundg (k - j)
              case measure => omega
              case rel => exact FINH.out _ OJ.out.drew
            | false =>
              simp only [Bool.not_false]
              by_cases y1 : YK = 1
              · subst y1
                by_cases ht : yt = tk
                · have FINH := Lib.hid (RELH.out true (by rw [HTJ.out, hasT_eq (isT_1 rfl) ht]))
                  subst ht
                  simp only [Bool.not_true] at FINH
                  go_wp2_with fail
                  go_region
                  go_wp2_with fail
                  go_roundg (k - j)
                  case measure => omega
                  case rel => exact FINH.out _ OJ.out.drew
                · have FINH := Lib.hid (RELH.out false (by rw [HTJ.out, hasT_ne ht, ← HH.out]))
                  simp only [Bool.not_false] at FINH
                  have t1 : (yt != tk) = true := by simpa using ht
                  go_wp2_with fail
                  go_region
                  go_wp2_with fail
                  go_roundg (k - j)
                  case measure => omega
                  case rel => exact FINH.out _ OJ.out.drew
              by_cases y3 : YK = 3
              · subst y3
                by_cases ht : yt = tk
                · have FINH := Lib.hid (RELH.out true (by rw [HTJ.out, hasT_eq (isT_3 rfl) ht]))
                  subst ht
                  simp only [Bool.not_true] at FINH
                  go_wp2_with fail
                  go_region
                  go_wp2_with fail
                  go_roundg (k - j)
                  case measure => omega
                  case rel => exact FINH.out _ OJ.out.drew
                · have FINH := Lib.hid (RELH.out false (by rw [HTJ.out, hasT_ne ht, ← HH.out]))
                  simp only [Bool.not_false] at FINH
                  have t1 : (yt != tk) = true := by simpa using ht
                  go_wp2_with fail
                  go_region
                  go_wp2_with fail
                  go_roundg (k - j)
                  case measure => omega
                  case rel => exact FINH.out _ OJ.out.drew
              · have FINH := Lib.hid (RELH.out false (by rw [HTJ.out, hasT_no (isT_0 y1 y3), ← HH.out]))
                simp only [Bool.not_false] at FINH
                have t1 : (YK != 1) = true := by simpa using y1
                have t3 : (YK != 3) = true := by simpa using y3
                go_wp2_with fail
                go_region
                go_wp2_with fail
                go_roundg (k - j)
                case measure => omega
                case rel => exact FINH.out _ OJ.out.drew
          · have hj2 : ¬ (j : Int) < (k : Int) := by omega
            have hjk' : j = k := by omega
            subst hjk'
            obtain ⟨h, hh⟩ : ∃ h, h = hasT (l.take j) tk := ⟨_, rfl⟩
            have CN := Lib.hid (show cntT (l.take (j + 1)) = if h then cntT (l.take j) else cntT (l.take j) + 1 from by rw [HT.out, cntT_yes HI.out, hh])
            rw [← hh]
            clear hh
            have hwc : wrap64 ((cntT (l.take j) : Int) + 1) = ((cntT (l.take j) + 1 : Nat) : Int) := by have := cntT_le (l.take j); have := List.length_take_le j l; rw [← IntWalk.i64_left, IntWalk.i64_in _ (by omega)]; omega
            cases h with
            | true =>
              simp only [Bool.not_true]
              simp only [if_true] at CN
              go_wp2_with fail
              go_roundg (n - j)
              case measure => omega
              case rel => exact ⟨j + 1, by first | rfl | (congr 1; omega), by omega, by omega, by rw [CN.out], OJ.out⟩
            | false =>
              simp only [Bool.not_false]
              simp only [Bool.false_eq_true, if_false] at CN
              go_wp2_with fail
              go_roundg (n - j)
              case measure => omega
              case rel => exact ⟨j + 1, by first | rfl | (congr 1; omega), by omega, by omega, by rw [CN.out]; first | rfl | rw [hwc] | (congr 1; omega), OJ.out⟩
      by_cases h3 : K = 3
      · subst h3
        have HI := Lib.hid (isT_3 (e := ⟨3, a, tk, ot, lv⟩) rfl)
        go_wp2_with fail
        go_loopg [5, 6] (k + 1) (fun g s5 s6 wi => ∃ j : Nat, s6 = .int .i64 j ∧ j + g = k + 1 ∧ j ≤ k ∧ s5 = .bool (!hasT (l.take j) tk) ∧ Only [] w wi)
        case atStart => exact ⟨0, rfl, by omega, by omega, rfl, OW.out⟩
        case round =>
          obtain ⟨j, rfl, hgj, hj, rfl, hoj⟩ := hrel
          have OJ := Lib.hid hoj
          clear hoj
          by_cases hjk : j < k
          · have hj1 : (0 : Int) ≤ (j : Int) := by omega
            have hj2 : (j : Int) < (k : Int) := by omega
            have hj3 : (j : Int) < (n : Int) := by omega
            have hy := (HG.out j (by rw [← HN.out]; omega)).keep OJ.out
            have hz := (HG.out k (by rw [← HN.out]; exact hkn)).keep OJ.out
            rw [← HX.out] at hz
            obtain ⟨y, hyy⟩ : ∃ y, y = l.getD j Evt.zero := ⟨_, rfl⟩
            have HTJ := Lib.hid (show l.take (j + 1) = l.take j ++ [y] from by rw [hyy]; exact take_snoc_getD l _ j (by rw [← HN.out]; omega))
            rw [← hyy] at hy
            obtain ⟨YK, ya, yt, yo, yl⟩ := y
            obtain ⟨d0, -, d2, -, -⟩ := hy
            obtain ⟨-, -, e2, -, -⟩ := hz
            simp only at d0 d2 e2
            clear hyy
            have REL : ∀ b : Bool, b = hasT (l.take (j + 1)) tk → ∀ wi, Only [] w wi → ∃ j_1 : Nat, Value.int .i64 ((j : Int) + 1) = .int .i64 j_1 ∧ j_1 + (k - j) = k + 1 ∧ j_1 ≤ k ∧ Value.bool (!b) = .bool (!hasT (l.take j_1) tk) ∧ Only [] w wi := fun b hb wi ho => ⟨j + 1, by first | rfl | (congr 1; omega), by omega, by omega, by rw [hb], ho⟩
            have RELH := Lib.hid REL
            clear REL
            obtain ⟨h, hh⟩ : ∃ h, h = hasT (l.take j) tk := ⟨_, rfl⟩
            have HH := Lib.hid hh
            rw [← hh]
            clear hh
            cases h with
            | true =>
              have FIN := RELH.out true (by
                by_cases hne : yt = tk
                · by_cases hi : isT ⟨YK, ya, yt, yo, yl⟩ = true
                  · rw [HTJ.out, hasT_eq hi hne]
                  · rw [HTJ.out, hasT_no (by simpa using hi), ← HH.out]
                · rw [HTJ.out, hasT_ne hne, ← HH.out])
              have FINH := Lib.hid FIN
              clear FIN
              simp only [Bool.not_true] at FINH ⊢
              go_wp2_with fail
              go_region
              go_wp2_with fail
              go_roundg (k - j)
              case measure => omega
              case rel => exact FINH.out _ OJ.out.drew
            | false =>
              simp only [Bool.not_false]
              by_cases y1 : YK = 1
              · subst y1
                by_cases ht : yt = tk
                · have FINH := Lib.hid (RELH.out true (by rw [HTJ.out, hasT_eq (isT_1 rfl) ht]))
                  subst ht
                  simp only [Bool.not_true] at FINH
                  go_wp2_with fail
                  go_region
                  go_wp2_with fail
                  go_roundg (k - j)
                  case measure => omega
                  case rel => exact FINH.out _ OJ.out.drew
                · have FINH := Lib.hid (RELH.out false (by rw [HTJ.out, hasT_ne ht, ← HH.out]))
                  simp only [Bool.not_false] at FINH
                  have t1 : (yt != tk) = true := by simpa using ht
                  go_wp2_with fail
                  go_region
                  go_wp2_with fail
                  go_roundg (k - j)
                  case measure => omega
                  case rel => exact FINH.out _ OJ.out.drew
              by_cases y3 : YK = 3
              · subst y3
                by_cases ht : yt = tk
                · have FINH := Lib.hid (RELH.out true (by rw [HTJ.out, hasT_eq (isT_3 rfl) ht]))
                  subst ht
                  simp only [Bool.not_true] at FINH
                  go_wp2_with fail
                  go_region
                  go_wp2_with fail
                  go_roundg (k - j)
                  case measure => omega
                  case rel => exact FINH.out _ OJ.out.drew
                · have FINH := Lib.hid (RELH.out false (by rw [HTJ.out, hasT_ne ht, ← HH.out]))
                  simp only [Bool.not_false] at FINH
                  have t1 : (yt != tk) = true := by simpa using ht
                  go_wp2_with fail
                  go_region
                  go_wp2_with fail
                  go_roundg (k - j)
                  case measure => omega
                  case rel => exact FINH.out _ OJ.out.drew
              · have FINH := Lib.hid (RELH.out false (by rw [HTJ.out, hasT_no (isT_0 y1 y3), ← HH.out]))
                simp only [Bool.not_false] at FINH
                have t1 : (YK != 1) = true := by simpa using y1
                have t3 : (YK != 3) = true := by simpa using y3
                go_wp2_with fail
                go_region
                go_wp2_with fail
                go_roundg (k - j)
                case measure => omega
                case rel => exact FINH.out _ OJ.out.drew
          · have hj2 : ¬ (j : Int) < (k : Int) := by omega
            have hjk' : j = k := by omega
            subst hjk'
            obtain ⟨h, hh⟩ : ∃ h, h = hasT (l.take j) tk := ⟨_, rfl⟩
            have CN := Lib.hid (show cntT (l.take (j + 1)) = if h then cntT (l.take j) else cntT (l.take j) + 1 from by rw [HT.out, cntT_yes HI.out, hh])
            rw [← hh]
            clear hh
            have hwc : wrap64 ((cntT (l.take j) : Int) + 1) = ((cntT (l.take j) + 1 : Nat) : Int) := by have := cntT_le (l.take j); have := List.length_take_le j l; rw [← IntWalk.i64_left, IntWalk.i64_in _ (by omega)]; omega
            cases h with
            | true =>
              simp only [Bool.not_true]
              simp only [if_true] at CN
              go_wp2_with fail
              go_roundg (n - j)
              case measure => omega
              case rel => exact ⟨j + 1, by first | rfl | (congr 1; omega), by omega, by omega, by rw [CN.out], OJ.out⟩
            | false =>
              simp only [Bool.not_false]
              simp only [Bool.false_eq_true, if_false] at CN
              go_wp2_with fail
              go_roundg (n - j)
              case measure => omega
              case rel => exact ⟨j + 1, by first | rfl | (congr 1; omega), by omega, by omega, by rw [CN.out]; first | rfl | rw [hwc] | (congr 1; omega), OJ.out⟩
      · have e1 : (K != 1) = true := by simpa using h1
        have e3 : (K != 3) = true := by simpa using h3
        have CN := Lib.hid (show cntT (l.take (k + 1)) = cntT (l.take k) from by rw [HT.out]; exact cntT_no (isT_0 h1 h3))
        go_wp2_with fail
        go_roundg (n - k)
        case measure => omega
        case rel => exact ⟨k + 1, by first | rfl | (congr 1; omega), by omega, by omega, by rw [CN.out], OW.out⟩
    · have hk2 : ¬ (k : Int) < (n : Int) := by omega
      have hkn' : k = n := by omega
      subst hkn'
      go_wp2_with fail
      go_ret
      have hl : l.take k = l := by rw [HN.out]; exact List.take_length
      rw [hl]
      exact ⟨rfl, OW.out⟩
end Go.Proofs.YtncnepmgmphanaaGreatDoor

namespace Go.Proofs.YtncnepmgmphanaaGreatDoor
open Go.RowKit
theorem short0_any (w : World) (ao : Option Addr) (nb cap : Nat) (hnb : nb ≤ 9223372036854775807) :
    Calls Tryz.prog 7 #[.slice ao nb cap, .slice none 0 0] w fun e w' => e = .returned (.bool (decide (nb ≤ 400))) ∧ w = w' := by
  go_enter Tryz.func7, Tryz.ntmps7
  go_wp2_with fail
  go_loop [5] (fun i => i = .int .i64 0) (fun i => 1)
  case atStart => rfl
  case round =>
    subst hrel
    by_cases h : nb ≤ 400
    · have h' : (nb : Int) ≤ 400 := by omega
      go_wp2_with fail
      go_ret
      exact ⟨ret_bool (by simp [h]), rfl⟩
    · have h' : ¬ (nb : Int) ≤ 400 := by omega
      go_wp2_with fail
      go_ret
      exact ⟨ret_bool (by simp [h]), rfl⟩
end Go.Proofs.YtncnepmgmphanaaGreatDoor

namespace Go.Proofs.YtncnepmgmphanaaGreatDoor
open Go.RowKit
theorem fmt_awake : fmtRes [⟨5, 0, 3, 0, 0⟩] = ([115, 116, 97, 114, 116, 32, 48, 32, 51, 10], 0) := by
  have h1 : validB ⟨5, 0, 3, 0, 0⟩ = true := by decide
  have e0 : Lib.itoa 0 = [48] := by unfold Lib.itoa; rw [if_neg (by omega), Lib.decDigits]; rfl
  have e3 : Lib.itoa 3 = [51] := by unfold Lib.itoa; rw [if_neg (by omega), Lib.decDigits]; rfl
  have hl : lineB ⟨5, 0, 3, 0, 0⟩ = [115, 116, 97, 114, 116, 32, 48, 32, 51, 10] := by
    have hf : formAt 4 = ⟨[115, 116, 97, 114, 116], true, false, false⟩ := rfl
    simp [lineB, lineTo, segB, flAt, usAt, hf, e0, e3]
  simp [fmtRes, h1, fmtB, hl]
theorem parse_awake : parseB [112, 97, 114, 107, 32, 49] = ([], 1, 4) := by
  have hc : (Lib.cut [112, 97, 114, 107, 32, 49] [10]).2.2 = false := by decide
  unfold parseB
  rw [if_neg (by decide), parseR_succ, if_neg (by decide), hc]
  rfl
set_option maxRecDepth 100000 in
set_option maxHeartbeats 1000000 in
theorem awake_any (w : World) (hL : LibAt w) : Calls Tryz.prog 12 #[] w fun e w' => e = .returned (.bool true) ∧ Only [] w w' := by
  obtain ⟨W0, hW0⟩ : ∃ W0, W0 = w.alloc (.cells #[.int .i64 5, .int .i64 0, .int .i64 3, .int .i64 0, .int .i64 0] 27) := ⟨_, rfl⟩
  obtain ⟨b, hb⟩ : ∃ b, b = w.heap.size := ⟨_, rfl⟩
  have hB : W0.heap[b]? = some (.cells #[.int .i64 5, .int .i64 0, .int .i64 3, .int .i64 0, .int .i64 0] 27 (0, 0)) := by rw [hW0, hb]; exact blk_alloc_new _ _
  have O0 : Only [] w W0 := by rw [hW0]; exact (Only.refl _ _).alloc _
  have EL0 : EL W0 (.slice (some ⟨b, 0, none⟩) 1 1) [⟨5, 0, 3, 0, 0⟩] := ⟨_, 1, rfl, Nat.le_refl _, fun _ => ⟨b, 0, rfl, fun i hi => by
    obtain rfl : i = 0 := by simp at hi; omega
    exact ⟨cell_blk hB 0, cell_blk hB 1, cell_blk hB 2, cell_blk hB 3, cell_blk hB 4⟩⟩⟩
  have FA := format_any W0 (hL.keep0 O0) _ _ EL0 (by simp)
  rw [fmt_awake] at FA
  simp only at FA
  have FAH := Lib.hid FA
  have HW0 := Lib.hid hW0
  have HB := Lib.hid hb
  have O0H := Lib.hid O0
  have HL := Lib.hid hL
  clear hW0 hb hB O0 EL0 FA hL
  go_enter Tryz.func12, Tryz.ntmps12
  go_wp2_with fail
  rw [← HW0.out, ← HB.out]
  refine FAH.out.mono ?_; rintro e w1 ⟨rfl, o1⟩
  have O1 := Lib.hid (O0H.out.then0 o1)
  have PA := parse_any w1 (HL.out.keep0 O1.out) ⟨#[112, 97, 114, 107, 32, 49]⟩ (by decide)
  rw [show (⟨#[112, 97, 114, 107, 32, 49]⟩ : ByteArray).data.toList = [112, 97, 114, 107, 32, 49] from rfl, parse_awake] at PA
  have PAH := Lib.hid PA
  clear o1 PA
  go_wp2_with fail
  refine PAH.out.mono ?_; rintro e w2 ⟨o2, v, rfl, hv⟩
  have O2 := Lib.hid (O1.out.then0 o2)
  clear o2 hv
  go_wp2_with fail
  go_ret
  exact ⟨by rfl, O2.out⟩
end Go.Proofs.YtncnepmgmphanaaGreatDoor

namespace Go.Proofs.YtncnepmgmphanaaGreatDoor
open Go.RowKit
theorem wf_of_inK {k : IntKind} {z : Int} (h : inK k z) : (Lit.int k z).wf = true := by
  simp only [Lit.wf, Bool.and_eq_true, decide_eq_true_eq]
  exact ⟨h.1, h.2⟩
theorem el_wf {B N : Nat} {w : World} {v : Value} {l : List Evt} (hw : WT kd.sig B N w) (h : CellOK w B N (.sl 27 5) v) (hE : EL w v l) : ∀ e ∈ l, (Lit.int .i64 e.task).wf = true := fun e he => by
  obtain ⟨i, hi, rfl⟩ := List.getElem_of_mem he
  obtain ⟨ao, cap, rfl, hc, hh⟩ := hE
  obtain ⟨b, off, rfl, hg⟩ := hh (by omega)
  obtain ⟨-, -, c2, -, -⟩ := hg i hi
  rw [List.getD_eq_getElem?_getD, List.getElem?_eq_getElem hi] at c2
  rcases sl_blk h with h0 | ⟨b', n, c, cur, e0, h1, h2, h3, h4, h5⟩
  · cases h0
  · cases e0
    have hlt : i * 5 + 2 < cur.size := by
      have : (i + 1) * 5 ≤ cap * 5 := Nat.mul_le_mul_right _ (by omega)
      omega
    obtain ⟨x, e, o⟩ := row_cell hw kEvt h1 h2 (i := i * 5 + 2) (j := 2) (ck := .int .i64) hlt (by show (i * 5 + 2) % 5 = 2; omega) rfl
    rw [Nat.zero_add, e] at c2
    cases c2
    obtain ⟨z, hz, hk⟩ := o
    cases hz
    exact wf_of_inK hk
theorem GX.evst {w00 w : World} {sh : Sh} {B T rb N xb : Nat} (h : GX w00 sh B T rb N w xb) : ∃ (pe : Nat) (ea sa : Option Addr) (el ec sl sc : Nat) (l : List Evt) (sf : Nat → Int), w.cell? ⟨xb, 0, none⟩ = some (.pointer (some ⟨pe, 0, none⟩)) ∧ w.cell? ⟨xb, 3, none⟩ = some (.slice sa sl sc) ∧ w.cell? ⟨pe, 20, none⟩ = some (.slice ea el ec) ∧ el ≤ sl ∧ EL w (.slice ea el ec) l ∧ (∀ i, i < sl → ∃ b, sa = some ⟨b, 0, none⟩ ∧ w.cell? ⟨b, i, none⟩ = some (.int .i64 (sf i))) ∧ el ≤ N ∧ ∀ e ∈ l, (Lit.int .i64 e.task).wf = true := by
  have hwt := h.wt
  obtain ⟨sb, lb, k, kc, mbs, fbs, ent, st, l0, l1, l2, l3, h, ev, he1, he2⟩ := h
  letI : Inhabited SBW := sbI sb
  have c0 : w.cell? ⟨xb, 0, none⟩ = some (.pointer (some ⟨sh.pe, 0, none⟩)) := by rw [cell_blk h.eng]; rfl
  have c3 : w.cell? ⟨xb, 3, none⟩ = some st := by rw [cell_blk h.eng]; rfl
  obtain ⟨c, h1, h2, h3⟩ := h.ee.blk
  have h3' : 21 ≤ c.size := by rw [szE] at h3; omega
  obtain ⟨v, hv, ho⟩ := row_cell h.wt kEv h1 h2 (i := 20) (j := 20) (by omega) rfl rfl
  rw [he1] at hv
  cases hv
  obtain ⟨l, hE, hl⟩ := el_of_ty h.wt ho
  have hwf := el_wf h.wt ho hE
  have so := h.sto
  have hE' := hE
  obtain ⟨ea, ec, rfl, hec, hh⟩ := hE'
  have kI : kd.sig IT = some [.int .i64] := by kernel_rfl
  rcases sl_blk so with rfl | ⟨b, n, cp, cur, rfl, g1, g2, g3, g4, g5⟩
  · exact ⟨sh.pe, ea, none, l.length, ec, 0, 0, l, fun _ => 0, c0, c3, he1, he2, hE, fun i hi => absurd hi (Nat.not_lt_zero _), hl, hwf⟩
  · refine ⟨sh.pe, ea, some ⟨b, 0, none⟩, l.length, ec, n, cp, l, fun i => intAt cur[i]?, c0, c3, he1, he2, hE, fun i hi => ⟨b, rfl, ?_⟩, hl, hwf⟩
    obtain ⟨x, e, o⟩ := row_cell h.wt kI g1 g2 (i := i) (j := 0) (ck := .int .i64) (by omega) (Nat.mod_one i) rfl
    rw [e]
    obtain ⟨z, rfl, -⟩ := o
    rw [cell_blk g2] at e
    simp only [e]
    rfl
set_option maxRecDepth 100000 in
set_option maxHeartbeats 4000000 in
theorem EventsPlain_any (w : World) (hL : LibAt w) (v : Value) (l : List (Int × Evt)) (hE : STL w v l ∧ ∀ x ∈ l, (Lit.int .i64 x.2.task).wf = true) (hn : l.length ≤ 9223372036854775807) (ao : Option Addr) (nb cb : Nat) (hb : BytesAt w ao nb) (hnb : nb ≤ 9223372036854775807) (sa : Option Addr) (ns cs : Nat) (hs : BytesAt w sa ns) (hns : ns ≤ 9223372036854775807) (near : Bool) :
    Calls Tryz.prog 6 #[v, .slice ao nb cb, .slice sa ns cs, .bool near] w fun e w' => e = .returned (.bool true) ∧ Only [] w w' := by
  have HE := Lib.hid hE
  have HL := Lib.hid hL
  have HB := Lib.hid (And.intro hb hs)
  obtain ⟨⟨al, cl, rfl, hcl, -⟩, -⟩ := hE
  obtain ⟨n, hnn⟩ : ∃ n, n = l.length := ⟨_, rfl⟩
  have HN := Lib.hid hnn
  rw [← hnn] at hn ⊢
  have SH := Lib.hid (short0_any w ao nb cb hnb)
  clear hL hb hs hcl hnn
  by_cases h300 : 200 < n
  · go_enter Tryz.func6, Tryz.ntmps6
    have h3 : (200 : Int) < (n : Int) := by omega
    go_wp2_with fail
    go_ret
    exact ⟨rfl, Only.refl _ _⟩
  have h3 : ¬ (200 : Int) < (n : Int) := by omega
  by_cases h400 : nb ≤ 400
  rotate_left
  · rw [decide_eq_false h400] at SH
    go_enter Tryz.func6, Tryz.ntmps6
    go_wp2_with fail
    refine SH.out.mono ?_; rintro e w' ⟨rfl, rfl⟩
    go_wp2_with fail
    go_ret
    exact ⟨rfl, Only.refl _ _⟩
  rw [decide_eq_true h400] at SH
  by_cases h600 : 600 < ns
  · have h6 : (600 : Int) < (ns : Int) := by omega
    go_enter Tryz.func6, Tryz.ntmps6
    go_wp2_with fail
    refine SH.out.mono ?_; rintro e w' ⟨rfl, rfl⟩
    go_wp2_with fail
    go_ret
    exact ⟨rfl, Only.refl _ _⟩
  have h6 : ¬ (600 : Int) < (ns : Int) := by omega
  go_enter Tryz.func6, Tryz.ntmps6
  go_wp2_with fail
  refine SH.out.mono ?_; rintro e w' ⟨rfl, rfl⟩
  go_upto_if 24 with fail
  go_cut [0] (fun s0 wx => ∃ l1, STL wx s0 l1 ∧ (∀ x ∈ l1, (Lit.int .i64 x.2.task).wf = true) ∧ l1.length ≤ 200000 ∧ Only [] w wx)
  case first =>
    cases near with
    | false =>
      go_wp2_with fail
      go_meet
      exact ⟨l, by have := HE.out.1; rwa [← HN.out] at this, HE.out.2, by have := HN.out; omega, Only.refl _ _⟩
    | true =>
      obtain ⟨B, hB⟩ : ∃ B, B = w.heap.size := ⟨_, rfl⟩
      obtain ⟨N, hN⟩ : ∃ N, N = 131072 := ⟨_, rfl⟩
      have hw : WT kd.sig B N w := fun k c T f L hk hh hL => by
        have := (Array.getElem?_eq_some_iff.1 hh).1
        omega
      have C : DC B N w ao nb := ⟨by omega, by omega, by omega, HB.out.1, by omega⟩
      have HC := Lib.hid (config_any w ao nb cb hw C)
      have HW := Lib.hid (show B = w.heap.size ∧ N = 131072 ∧ DC B N w sa ns ∧ ns ≤ 100000 from ⟨hB, hN, ⟨by omega, by omega, by omega, HB.out.2, by omega⟩, by omega⟩)
      clear hw C hB hN
      go_wp2_with fail
      refine HC.out.mono ?_
      rintro e w1 ⟨c, rfl, hD⟩
      have HD := Lib.hid hD
      clear hD HC
      go_wp2_with fail
      refine (engine_any (B := B) (N := N) w1 c HD.out.2.1 (Nat.le_trans HW.out.2.2.1.b HD.out.2.2.size) HW.out.2.2.1.n1 HW.out.2.2.1.n2 HD.out.1).mono ?_
      rintro e w2 ⟨xb, rfl, hE⟩
      have HE2 := Lib.hid hE
      clear hE
      go_wp2_with fail
      obtain ⟨E2, hx, pe, m, rs, rb, cr, h19, G2⟩ := HE2.out
      have HS2 := Lib.hid (show DC B N w2 sa ns ∧ Eff (fun _ _ _ => False) w w2 from ⟨HW.out.2.2.1.out ((HD.out.2.2.trans E2).mono fun _ _ _ _ h => h.elim), HD.out.2.2.trans E2⟩)
      have HG2 := Lib.hid G2
      have H19 := Lib.hid h19
      clear G2 h19 hx E2
      refine (script_any (B := B) (N := N) w2 sa ns cs HG2.out.wt HG2.out.bw HS2.out.1.bs HW.out.2.2.2).mono ?_
      rintro e w3 ⟨ao2, n2, cap2, rfl, hn2, W3, E3, hEn⟩
      have HG3 := Lib.hid (HG2.out.re W3 E3)
      have HS3 := Lib.hid (HS2.out.2.trans E3)
      have HEn := Lib.hid hEn
      clear W3 E3 hEn
      go_wp2_with fail
      refine (runE_any (ao := ao2) (n := n2) (cap := cap2) HG3.out H19.out (by have := HW.out.2.1; omega) (by omega) (by have := HW.out.2.1; omega) HEn.out).mono ?_
      rintro e w4 ⟨rfl, hG4⟩
      have HG4 := Lib.hid hG4
      have O4 := Lib.hid (show Only [] w w4 from only_eff (by
        have := (HS3.out.mono (Ch' := fun k _ _ => w.heap.size ≤ k) fun _ _ _ _ h => h.elim).trans (hG4.keep.mono (Ch' := fun k _ _ => w.heap.size ≤ k) fun _ _ _ _ h => by have := h.1; have := HW.out.1; omega)
        exact this))
      obtain ⟨pe4, ea, sta, el, ec, sl, sc, l4, sf, q0, q3, q20, hle, hE4, hS4, hel, hwf4⟩ := hG4.evst
      have EV := Lib.hid (events_any w4 xb pe4 ea sta el ec sl sc l4 sf q0 q3 q20 hle hE4 hS4 (by have := HW.out.2.1; omega))
      have WF := Lib.hid (And.intro hwf4 hel)
      have HLen := Lib.hid (show l4.length ≤ 200000 from by
        obtain ⟨_, _, e, _⟩ := hE4
        injection e with _ e2 _
        have := HW.out.2.1
        omega)
      clear hG4 q0 q3 q20 hle hE4 hS4 hel hwf4
      go_wp2_with fail
      refine EV.out.mono ?_
      rintro e w5 ⟨v5, L5, rfl, hL5, hm5, o5⟩
      have H5 := Lib.hid (And.intro hL5 (And.intro hm5 (O4.out.then0 o5)))
      clear hL5 hm5 o5
      go_wp2_with fail
      go_meet
      refine ⟨L5, H5.out.1, fun x hx => ?_, by have := HLen.out; rw [← H5.out.2.1, List.length_map] at this; exact this, H5.out.2.2⟩
      exact WF.out.1 x.2 (by rw [← H5.out.2.1]; exact List.mem_map_of_mem hx)
  case rest =>
    obtain ⟨l1, hE1, hwf, hl1, o1⟩ := hcut
    have HE1 := Lib.hid hE1
    have HWF := Lib.hid (show ∀ e ∈ l1.map Prod.snd, (Lit.int .i64 e.task).wf = true from fun e he => by
      obtain ⟨x, hx, rfl⟩ := List.mem_map.1 he
      exact hwf x hx)
    have HLn := Lib.hid (show (l1.map Prod.snd).length ≤ 1000000 from by rw [List.length_map]; omega)
    have O1 := Lib.hid o1
    have L1 := Lib.hid (HL.out.keep0 o1)
    have hl1' : l1.length ≤ 1000000 := by omega
    clear hE1 hwf o1 hl1
    go_wp2_with fail
    refine (of_any wc _ l1 HE1.out hl1').mono ?_
    rintro e w2 ⟨v2, rfl, hE2, o2⟩
    have H2 := Lib.hid (And.intro hE2 o2)
    clear hE2 o2
    go_wp2_with fail
    refine (awake_any _ (L1.out.keep0 H2.out.2)).mono ?_; rintro e w3 ⟨rfl, o3⟩
    have H3 := Lib.hid (show Only [] w2 w3 ∧ Only [] wc w3 from ⟨o3, H2.out.2.then0 o3⟩)
    clear o3
    go_wp2_with fail
    refine (refOf_any w3 _ l1 (HE1.out.keep H3.out.2) hl1').mono ?_
    rintro e w4 ⟨v4, rfl, hE4, o4⟩
    have H4 := Lib.hid (show EL w4 v4 (l1.map Prod.snd) ∧ EL w4 v2 (l1.map Prod.snd) ∧ Only [] wc w4 from ⟨hE4, (H2.out.1.keep H3.out.1).keep o4, H3.out.2.then0 o4⟩)
    clear hE4 o4
    go_wp2_with fail
    refine (refSame_any w4 _ _ _ H4.out.2.1 H4.out.1 (by have := HLn.out; omega)).mono ?_
    rintro e w5 ⟨rfl, o5⟩
    have H5 := Lib.hid (show EL w5 v2 (l1.map Prod.snd) ∧ Only [] wc w5 from ⟨H4.out.2.1.keep o5, H4.out.2.2.then0 o5⟩)
    clear o5
    go_wp2_with fail
    refine (tasks_any w5 _ _ H5.out.1 HWF.out HLn.out).mono ?_
    rintro e w6 ⟨rfl, o6⟩
    have H6 := Lib.hid (show EL w6 v2 (l1.map Prod.snd) ∧ Only [] wc w6 from ⟨H5.out.1.keep o6, H5.out.2.then0 o6⟩)
    clear o6
    go_wp2_with fail
    refine (refTasks_any w6 _ _ H6.out.1 HLn.out).mono ?_
    rintro e w7 ⟨rfl, o7⟩
    have H7 := Lib.hid (O1.out.then0 (H6.out.2.then0 o7))
    clear o7
    go_wp2_with fail
    go_ret
    exact ⟨rfl, H7.out⟩
end Go.Proofs.YtncnepmgmphanaaGreatDoor
