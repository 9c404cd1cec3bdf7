/- A steal is done with Abort only if another operation that took an entry overlapped it: the law walked. -/
import Derived.Test.YtfhkhknnoepfeaaHistLaw1
import Derived.StillTailTactics
namespace Go.Proofs.Ytfhkhknnoepfeaa
open Go.RowKit
set_option linter.unusedVariables false

/-- Does operation k rival operation i? -/
def rivB (l : List HOp) (i k : Nat) : Bool := decide (k ≠ i) && (decide ((l.getD k HOp.zero).code = 1) && (decide ((l.getD i HOp.zero).frm < (l.getD k HOp.zero).to) && decide ((l.getD k HOp.zero).frm < (l.getD i HOp.zero).to)))
def rivN (l : List HOp) (i : Nat) : Nat → Bool
  | 0 => false
  | k + 1 => rivN l i k || rivB l i k
theorem rivN_of {l : List HOp} {i : Nat} : ∀ {n j : Nat}, j < n → rivB l i j = true → rivN l i n = true
  | 0, j, h, _ => by omega
  | n + 1, j, h, hb => by
    rw [rivN]
    by_cases e : j = n
    · subst e; rw [hb]; simp
    · rw [rivN_of (show j < n by omega) hb]; rfl
theorem Played.rival {c : Nat} {l : List HOp} {k : Nat} (h : Played c l k) {i : Nat} (hi : i < l.length) (hc : (l.getD i HOp.zero).code = 4) : rivN l i l.length = true ∧ (l.getD i HOp.zero).kind = 2 := by
  have hm : l.getD i HOp.zero ∈ l := by rw [List.getD_eq_getElem?_getD, List.getElem?_eq_getElem hi]; exact List.getElem_mem hi
  obtain ⟨h1, r, hr, h2, h3, h4⟩ := h.abort _ hm hc
  refine ⟨?_, h1⟩
  obtain ⟨j, hj, rfl⟩ := List.getElem_of_mem hr
  have e : l.getD j HOp.zero = l[j] := by rw [List.getD_eq_getElem?_getD, List.getElem?_eq_getElem hj]; rfl
  refine rivN_of hj ?_
  unfold rivB
  rw [e]
  have : j ≠ i := fun e2 => by subst e2; rw [e, h2] at hc; omega
  simp only [this, h2, h3, h4, ne_eq, not_false_eq_true, decide_true, Bool.and_true]

set_option maxRecDepth 100000 in
set_option maxHeartbeats 4000000 in
theorem HistoryAborts_small (w : World) (cp : Int) (raw : List Int) (v1 : Value) (h1 : Ns w v1 raw) (l1 : raw.length ≤ 400) (picks : List Int) (v2 : Value) (h2 : Ns w v2 picks) (l2 : picks.length ≤ 400) :
    Calls Try.prog 6 #[.int .i64 cp, v1, v2] w fun e w' => e = .returned (.bool true) ∧ Only [] w w' := by
  have H1 := Lib.hid h1
  have H2 := Lib.hid h2
  obtain ⟨ao1, cap1, rfl, -, -, -⟩ := h1
  obtain ⟨ao2, cap2, rfl, hc2, -, -⟩ := h2
  have HC2 := Lib.hid hc2
  obtain ⟨n1, hn1⟩ : ∃ n1, n1 = raw.length := ⟨_, rfl⟩
  obtain ⟨n2, hn2⟩ : ∃ n2, n2 = picks.length := ⟨_, rfl⟩
  obtain ⟨c, hc⟩ : ∃ c : Int, c = numZ [cp] 0 6 := ⟨_, rfl⟩
  have hcb := numZ_bd [cp] 0 (n := 6) (by omega)
  rw [← hc] at hcb
  have CC := Lib.hid hc
  rw [← hn1] at H1 l1 ⊢
  rw [← hn2] at H2 l2 ⊢
  have N1 := Lib.hid hn1
  have N2 := Lib.hid hn2
  have SH := Lib.hid (short_any (w.alloc (.cells #[.slice ao1 n1 cap1, .slice ao2 n2 cap2] 24)) none 0 0 (by omega) w.heap.size 24 (0, 0) [(ao1, n1, cap1), (ao2, n2, cap2)] 2 rfl (by omega) (blk_alloc_new w _) (by simp; omega))
  rw [show (decide (∀ x ∈ [(ao1, n1, cap1), (ao2, n2, cap2)], x.2.1 ≤ 400) && decide (0 ≤ 400)) = true from by simp; omega] at SH
  clear hc hn1 hn2 hc2
  go_enter Try.func6, Try.ntmps6
  go_wp2_with fail
  refine SH.out.mono ?_; rintro e w1 ⟨rfl, rfl⟩
  clear SH
  generalize hw1 : w.alloc (.cells #[.slice ao1 n1 cap1, .slice ao2 n2 cap2] 24) = w1
  have O1 : Hid (Only [] w w1) := Lib.hid (by rw [← hw1]; exact (Only.refl _ _).alloc _)
  clear hw1
  have NM := Lib.hid (number_any (w1.alloc (.cells #[.int .i64 cp] 3)) (.slice (some ⟨w1.heap.size, 0, none⟩) 1 1) [cp] 0 6 (ns_new (T := 3) (f := (0, 0)) [cp] (blk_alloc_new w1 _) rfl) (by omega) (by simp) (by omega))
  rw [← CC.out] at NM
  go_wp2_with fail
  refine NM.out.mono ?_; rintro e w2 ⟨rfl, o2⟩
  have O2 := Lib.hid ((O1.out.alloc (.cells #[.int .i64 cp] 3)).then0 o2)
  clear o2 NM
  have PL := Lib.hid (plan_any w2 (.slice ao1 n1 cap1) raw 40 (by have := H1.out.keep O2.out; exact this) (by rw [← N1.out]; omega) (by omega))
  go_wp2_with fail
  refine PL.out.mono ?_; rintro e w3 ⟨m, ob, B, vs, hm, rfl, hP⟩
  have hnb := numZ_bd raw 0 (n := 3) (by omega)
  have hm2 : 2 ≤ m ∧ m ≤ 4 := by omega
  obtain ⟨S, hS⟩ : ∃ S, S = min (raw.length - 1) 40 := ⟨_, rfl⟩
  rw [← hS] at hP
  have P := Lib.hid hP
  have O3 := Lib.hid (O2.out.then0 hP.F)
  have hS10 : S ≤ 40 := by omega
  have PY := Lib.hid (planPlay_any hP (1 + c) ao2 cap2 picks (HC2.out.keep0 O3.out) (by omega) (by omega) (by omega) (by rw [← N2.out]; omega))
  have PD := Lib.hid (planOps_spec (1 + c) m raw S picks (by omega) (by omega) (by rw [← N2.out]; omega))
  rw [← N2.out] at PY
  have VL := Lib.hid (getD_vals (planOps_vals PD.out))
  obtain ⟨ops, hops⟩ : ∃ ops, ops = planOps (1 + c) m raw S picks := ⟨_, rfl⟩
  rw [← hops] at PY PD VL
  clear hm hP PL hnb hS hops
  go_wp2_with fail
  refine PY.out.mono ?_; rintro e w4 ⟨ov, rfl, hown, o4⟩
  have OV := Lib.hid (ops_owns hown rfl)
  have O4 := Lib.hid (O3.out.then0 o4)
  clear o4 hown PY
  have AW := Lib.hid (awake_any w4)
  obtain ⟨oao, ocap, rfl, -, hat⟩ := id OV.out
  have hol : ops.length ≤ 40 := by rw [PD.out.len]; exact hS10
  obtain ⟨n, hon⟩ : ∃ n, n = ops.length := ⟨_, rfl⟩
  have ON := Lib.hid hon
  rw [← hon] at hol hat OV ⊢
  have AT := Lib.hid hat
  clear hon hat
  go_wp2_with fail
  refine AW.out.mono ?_; rintro e w5 ⟨rfl, o5⟩
  have O5 := Lib.hid (O4.out.then0 o5)
  have O45 := Lib.hid o5
  clear o5 AW
  go_wp2_with fail
  go_loopw [9] (fun iv wr => ∃ i : Nat, i ≤ n ∧ iv = .int .i64 i ∧ Only [] w5 wr) (fun iv _ => n - (intOf iv).toNat)
  case atStart => exact ⟨0, Nat.zero_le _, rfl, Only.refl _ _⟩
  case round =>
    obtain ⟨i, hi, rfl, hP⟩ := hrel
    have Q := Lib.hid hP
    clear hP
    by_cases hlt : i < n
    · obtain ⟨b, off, rfl, hcs⟩ := AT.out (by omega)
      have HCS := Lib.hid hcs
      have ei := (hcs i hlt).keep (O45.out.then0 Q.out) (by simp)
      obtain ⟨A, hA⟩ : ∃ A, A = ops.getD i HOp.zero := ⟨_, rfl⟩
      have HA := Lib.hid hA
      rw [← hA] at ei
      clear hA hcs
      have ei4 := ei.2.2.2.2.1
      by_cases hc4 : A.code = 4
      · obtain ⟨hr1, hr2⟩ := PD.out.rival (i := i) (by rw [← ON.out]; exact hlt) (by rw [← HA.out]; exact hc4)
        rw [← ON.out] at hr1
        rw [← HA.out] at hr2
        have R1 := Lib.hid hr1
        have R2 := Lib.hid hr2
        rw [hc4] at ei4
        have EI := Lib.hid ei
        clear hr1 hr2 ei hc4
        go_wp2_with fail
        obtain ⟨wo, hwo⟩ : ∃ wo, wo = wr := ⟨_, rfl⟩
        subst hwo
        go_loopw [10, 11] (fun rv kv wr => ∃ k : Nat, k ≤ n ∧ kv = .int .i64 k ∧ rv = .bool (rivN ops i k) ∧ Only [] wo wr) (fun _ kv _ => n - (intOf kv).toNat)
        case atStart => exact ⟨0, Nat.zero_le _, rfl, rfl, Only.refl _ _⟩
        case round =>
          obtain ⟨k, hk, rfl, rfl, hP⟩ := hrel
          have R := Lib.hid hP
          clear hP
          by_cases hlk : k < n
          · obtain ⟨rb, hrb⟩ : ∃ rb, rb = rivN ops i k := ⟨_, rfl⟩
            obtain ⟨C, hC⟩ : ∃ C, C = ops.getD k HOp.zero := ⟨_, rfl⟩
            have NXT : Hid (rivN ops i (k + 1) = (rb || (decide (k ≠ i) && (decide (C.code = 1) && (decide (A.frm < C.to) && decide (C.frm < A.to)))))) := Lib.hid (by rw [rivN, ← hrb, rivB, ← hC, ← HA.out])
            have ek := fun q => (HCS.out k hlk).keep (((O45.out.then0 Q.out).then0 R.out).drewN q) (by simp)
            have ej := fun q => EI.out.keep (R.out.drewN q) (by simp)
            rw [← hC] at ek
            rw [← hrb]
            obtain ⟨c0, c1, c2, c3, c4, c5⟩ := C
            obtain ⟨a0, a1, a2, a3, a4, a5⟩ := A
            unfold OpAt at ek ej
            simp only at ek ej NXT
            clear hC hrb
            cases rb with
            | true =>
              go_wp2_with fail
              go_quiet (fail)
              go_wp2_with fail
              go_roundw
              case rel => exact ⟨k + 1, by omega, by go_num, by rw [NXT.out]; rfl, R.out.drewN _⟩
              case measure => simp [intOf]; omega
            | false =>
              have fin : ∀ (x : Bool), (decide (k ≠ i) && (decide (c4 = 1) && (decide (a2 < c3) && decide (c2 < a3)))) = x → Hid (rivN ops i (k + 1) = x) := fun x h => Lib.hid (by rw [NXT.out, h]; rfl)
              by_cases hki : k = i
              · have FN := fin false (by simp [hki])
                have hki1 : ((k : Int) != (i : Int)) = false := by simp [hki]
                clear fin hki
                go_wp2_with fail
                go_quiet (fail)
                go_wp2_with fail
                go_roundw
                case rel => exact ⟨k + 1, by omega, by go_num, by rw [FN.out], R.out.drewN _⟩
                case measure => simp [intOf]; omega
              · have hki1 : ((k : Int) != (i : Int)) = true := by simp; omega
                by_cases hc1 : c4 = 1
                · subst hc1
                  by_cases hl1 : a2 < c3
                  · have hd1 : decide (a2 < c3) = true := decide_eq_true hl1
                    by_cases hl2 : c2 < a3
                    · have hd2 : decide (c2 < a3) = true := decide_eq_true hl2
                      have FN := fin true (by simp [hki, hl1, hl2])
                      clear fin hki hl1 hl2
                      go_wp2_with fail
                      go_quiet (fail)
                      go_wp2_with fail
                      go_roundw
                      case rel => exact ⟨k + 1, by omega, by go_num, by rw [FN.out], R.out.drewN _⟩
                      case measure => simp [intOf]; omega
                    · have hd2 : decide (c2 < a3) = false := decide_eq_false hl2
                      have FN := fin false (by simp [hki, hl1, hl2])
                      clear fin hki hl1 hl2
                      go_wp2_with fail
                      go_quiet (fail)
                      go_wp2_with fail
                      go_roundw
                      case rel => exact ⟨k + 1, by omega, by go_num, by rw [FN.out], R.out.drewN _⟩
                      case measure => simp [intOf]; omega
                  · have hd1 : decide (a2 < c3) = false := decide_eq_false hl1
                    have FN := fin false (by simp [hl1])
                    clear fin hki hl1
                    go_wp2_with fail
                    go_quiet (fail)
                    go_wp2_with fail
                    go_roundw
                    case rel => exact ⟨k + 1, by omega, by go_num, by rw [FN.out], R.out.drewN _⟩
                    case measure => simp [intOf]; omega
                · have hcd : (c4 == 1) = false := by simp [hc1]
                  have FN := fin false (by simp [hc1])
                  clear fin hki hc1
                  go_wp2_with fail
                  go_quiet (fail)
                  go_wp2_with fail
                  go_roundw
                  case rel => exact ⟨k + 1, by omega, by go_num, by rw [FN.out], R.out.drewN _⟩
                  case measure => simp [intOf]; omega
          · obtain rfl : k = n := by omega
            rw [R1.out]
            have ek0 := (EI.out.keep R.out (by simp)).1
            rw [R2.out] at ek0
            have QR := Lib.hid (Q.out.then0 R.out)
            clear hlk
            go_wp2_with fail
            go_roundw
            case rel => exact ⟨i + 1, by omega, by go_num, QR.out⟩
            case measure => simp [intOf]; omega
      · have hcd : (A.code == 4) = false := by simp [hc4]
        clear hc4 ei
        go_wp2_with fail
        go_roundw
        case rel => exact ⟨i + 1, by omega, by go_num, Q.out⟩
        case measure => simp [intOf]; omega
    · obtain rfl : i = n := by omega
      clear hlt
      go_wp2_with fail
      go_ret
      exact ⟨rfl, O5.out.then0 Q.out⟩

set_option maxRecDepth 100000 in
theorem HistoryAborts_any (w : World) (cp : Int) (raw : List Int) (v1 : Value) (h1 : Ns w v1 raw) (w1 : ∀ z ∈ raw, (Lit.int .i64 z).wf = true) (l1 : raw.length ≤ 9223372036854775807) (picks : List Int) (v2 : Value) (h2 : Ns w v2 picks) (w2 : ∀ z ∈ picks, (Lit.int .i64 z).wf = true) (l2 : picks.length ≤ 9223372036854775807) :
    Calls Try.prog 6 #[.int .i64 cp, v1, v2] w fun e w' => e = .returned (.bool true) ∧ Only [] w w' := by
  by_cases hs : raw.length ≤ 400 ∧ picks.length ≤ 400
  · exact HistoryAborts_small w cp raw v1 h1 hs.1 picks v2 h2 hs.2
  · obtain ⟨ao1, cap1, rfl, -, -, -⟩ := h1
    obtain ⟨ao2, cap2, rfl, -, -, -⟩ := h2
    generalize raw.length = n1 at *
    generalize picks.length = n2 at *
    have SH := Lib.hid (short_any (w.alloc (.cells #[.slice ao1 n1 cap1, .slice ao2 n2 cap2] 24)) none 0 0 (by omega) w.heap.size 24 (0, 0) [(ao1, n1, cap1), (ao2, n2, cap2)] 2 rfl (by omega) (blk_alloc_new w _) (by simp; omega))
    rw [show (decide (∀ x ∈ [(ao1, n1, cap1), (ao2, n2, cap2)], x.2.1 ≤ 400) && decide (0 ≤ 400)) = false from by simp; omega] at SH
    clear hs
    go_enter Try.func6, Try.ntmps6
    go_wp2_with fail
    refine SH.out.mono ?_; rintro e w1 ⟨rfl, rfl⟩
    clear SH
    go_wp2_with fail
    go_ret
    exact ⟨rfl, (Only.refl _ _).alloc _⟩
end Go.Proofs.Ytfhkhknnoepfeaa
