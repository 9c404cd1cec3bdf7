/- What the reference's Complete and Rounds compute. -/
import Derived.Test.YtfhmphbfngdkeaaScriptKit2
import Derived.Test.YtfhmphbfngdkeaaScriptPlain2
namespace Go.Proofs.Ytfhmphbfngdkeaa
open Go.RowKit
set_option linter.unusedVariables false

theorem tick_snoc {l : List E} {k : Nat} (h : k < l.length) : tickB (l.take (k + 1)) = (tickB (l.take k) || decide ((l.getD k (0, 0)).1 = 1)) := by
  unfold tickB
  rw [List.take_succ_eq_append_getElem h, List.any_append]
  simp [List.getD, List.getElem?_eq_getElem h]
theorem has_snoc {m j : Nat} {l : List E} {k : Nat} (h : k < l.length) : hasB m (l.take (k + 1)) j = (hasB m (l.take k) j || decide (machI (l.getD k (0, 0)) m = (j : Int))) := by
  unfold hasB
  rw [List.take_succ_eq_append_getElem h, List.any_append]
  simp [List.getD, List.getElem?_eq_getElem h]

set_option maxHeartbeats 1600000 in
theorem complete_at (w : World) (ao : Option Addr) (cap n : Nat) (l : List E) (h : CellsAt w ao (flat l)) (hn : n = l.length) (hn2 : n ≤ 1000000) (m : Nat) (hm : 1 ≤ m) (hm2 : (m : Int) ≤ 9223372036854775807) :
    Calls Try.prog 32 #[.slice ao n cap, .int .i64 m] w fun e w' => e = .returned (.bool (complB m l)) ∧ Only [] w w' := by
  have HN := Lib.hid hn
  have H := Lib.hid h
  have HM2 := Lib.hid hm2
  obtain ⟨res, hres⟩ : ∃ r, r = complB m l := ⟨_, rfl⟩
  rw [← hres]
  have HR := Lib.hid hres
  have O0 := Lib.hid (Only.refl [] w)
  clear h hn hm2 hres
  go_enter Try.func32, Try.ntmps32
  go_wp2_with fail
  go_loop [5, 6] (fun t i => ∃ (k : Nat) (b : Bool), k ≤ n ∧ i = .int .i64 k ∧ t = .bool b ∧ b = tickB (l.take k)) (fun _ i => n - (intOf i).toNat)
  case atStart => exact ⟨0, false, Nat.zero_le _, rfl, rfl, rfl⟩
  case round =>
    obtain ⟨k, b, hk, rfl, rfl, hb⟩ := hrel
    have HB := Lib.hid hb
    clear hb
    by_cases hlt : k < n
    · have HT := Lib.hid (tick_snoc (l := l) (k := k) (by have := HN.out; omega))
      obtain ⟨bl, off, rfl, hc⟩ := cells_entry H.out (by have := HN.out; omega)
      have c0 := (hc k (by have := HN.out; omega)).1
      obtain ⟨x, hx⟩ : ∃ x, x = (l.getD k (0, 0)).1 := ⟨_, rfl⟩
      rw [← hx] at c0 HT
      clear hc hx
      cases b with
      | true =>
        go_wp2_with fail
        go_round
        case rel => exact ⟨k + 1, true, by omega, by go_num, rfl, by rw [HT.out, ← HB.out]; rfl⟩
        case measure => simp [intOf]; omega
      | false =>
        by_cases h1 : x = 1
        · subst h1
          go_wp2_with fail
          go_round
          case rel => exact ⟨k + 1, true, by omega, by go_num, rfl, by rw [HT.out, ← HB.out]; rfl⟩
          case measure => simp [intOf]; omega
        · have e1 : (x == 1) = false := by simpa using h1
          go_wp2_with fail
          go_round
          case rel => exact ⟨k + 1, false, by omega, by go_num, rfl, by rw [HT.out, ← HB.out, decide_eq_false h1]; rfl⟩
          case measure => simp [intOf]; omega
    · obtain rfl : k = n := by omega
      have HB2 : Hid (b = tickB l) := Lib.hid (by have := HB.out; rwa [List.take_of_length_le (by have := HN.out; omega)] at this)
      clear HB
      go_wp2_with fail
      go_loopw [7, 8, 9] (fun t _ _ wr => ∃ (j : Nat), j ≤ m ∧ t = .int .i64 j ∧ (∀ i, i < j → hasB m l i = true) ∧ Only [] w wr) (fun t _ _ _ => m - (intOf t).toNat)
      case atStart => exact ⟨0, Nat.zero_le _, rfl, fun i hi => by omega, O0.out⟩
      case round =>
        obtain ⟨j, hj, rfl, hall, hP⟩ := hrel
        have HA := Lib.hid hall
        have P := Lib.hid hP
        clear hall hP
        by_cases hjm : j < m
        · have hj9 : (j : Int) ≤ 9223372036854775806 := by have := HM2.out; omega
          obtain ⟨wo, rfl⟩ : ∃ wo : World, wo = wr := ⟨_, rfl⟩
          go_wp2_with fail
          go_loopw [8, 9] (fun t i wr => ∃ (q : Nat) (f : Bool), q ≤ k ∧ i = .int .i64 q ∧ t = .bool f ∧ f = hasB m (l.take q) j ∧ Only [] w wr) (fun _ i _ => k - (intOf i).toNat)
          case atStart => exact ⟨0, false, Nat.zero_le _, rfl, rfl, rfl, P.out⟩
          case round =>
            obtain ⟨q, f, hq, rfl, rfl, hf, hP⟩ := hrel
            have HF := Lib.hid hf
            have P2 := Lib.hid hP
            clear hf hP P
            by_cases hqk : q < k
            · have HT := Lib.hid (has_snoc (m := m) (j := j) (l := l) (k := q) (by have := HN.out; omega))
              cases f with
              | true =>
                go_wp2_with fail
                go_roundw
                case rel => exact ⟨q + 1, true, by omega, by go_num, rfl, by rw [HT.out, ← HF.out]; rfl, P2.out⟩
                case measure => simp [intOf]; omega
              | false =>
                obtain ⟨bl, off, rfl, hc⟩ := cells_entry H.out (by have := HN.out; omega)
                have c0 := P2.out.keepCell (hc q (by have := HN.out; omega)).1 (by simp)
                have c1 := P2.out.keepCell (hc q (by have := HN.out; omega)).2 (by simp)
                obtain ⟨e, he⟩ : ∃ e, e = l.getD q (0, 0) := ⟨_, rfl⟩
                rw [← he] at c0 c1 HT
                clear hc he
                obtain ⟨a1, a2⟩ := e
                simp only at c0 c1
                have M := fun w => Lib.hid (refMachine_any a1 a2 m w HM2.out)
                obtain ⟨r, hr⟩ : ∃ r, r = machI (a1, a2) m := ⟨_, rfl⟩
                rw [← hr] at M HT
                clear hr
                by_cases hrj : r = j
                · subst hrj
                  go_wp2_with fail
                  refine (M _).out.mono ?_; rintro e w1 ⟨rfl, o1⟩
                  have P3 := Lib.hid (P2.out.then0 o1)
                  clear o1 M
                  go_wp2_with fail
                  go_roundw
                  case rel => exact ⟨q + 1, true, by omega, by go_num, rfl, by rw [HT.out]; simp, P3.out⟩
                  case measure => simp [intOf]; omega
                · have e1 : (r == (j : Int)) = false := by simpa using hrj
                  go_wp2_with fail
                  refine (M _).out.mono ?_; rintro e w1 ⟨rfl, o1⟩
                  have P3 := Lib.hid (P2.out.then0 o1)
                  clear o1 M
                  go_wp2_with fail
                  go_roundw
                  case rel => exact ⟨q + 1, false, by omega, by go_num, rfl, by rw [HT.out, ← HF.out, decide_eq_false hrj]; rfl, P3.out⟩
                  case measure => simp [intOf]; omega
            · obtain rfl : q = k := by omega
              have HF2 : Hid (f = hasB m l j) := Lib.hid (by have := HF.out; rwa [List.take_of_length_le (by have := HN.out; omega)] at this)
              cases f with
              | true =>
                go_wp2_with fail
                go_roundw
                case rel => exact ⟨j + 1, by omega, by go_num, fun i hi => by
                  by_cases e : i = j
                  · rw [e]; exact HF2.out.symm
                  · exact HA.out i (by omega), P2.out⟩
                case measure => simp [intOf]; omega
              | false =>
                have hfin : Hid (res = false) := Lib.hid (by
                  rw [HR.out]; unfold complB
                  rw [decide_eq_false (fun h => by have := h j hjm; rw [← HF2.out] at this; cases this)]; simp)
                go_wp2_with fail
                go_ret
                exact ⟨ret_bool hfin.out.symm, P2.out⟩
        · have hfin : Hid (res = b) := Lib.hid (by
            rw [HR.out]; unfold complB
            rw [decide_eq_true (fun i hi => HA.out i (by omega)), HB2.out]; simp)
          go_wp2_with fail
          go_ret
          exact ⟨ret_bool hfin.out.symm, P.out⟩

theorem refRounds_none (w : World) (v : Value) (m : Int) (hm : m < 1) :
    Calls Try.prog 19 #[v, .int .i64 m] w fun e w' => e = .returned (.int .i64 0) ∧ w = w' := by
  go_enter Try.func19, Try.ntmps19
  go_wp2_with fail
  go_ret
  exact ⟨rfl, rfl⟩

theorem en_part {w : World} {b off n cap : Nat} {l : List E} (h : CellsAt w (some ⟨b, off, none⟩) (flat l)) (hn : n = l.length) (fr k : Nat) (hfk : fr ≤ k) (hk : k ≤ n) (hc : n ≤ cap) : En w (.slice (some ⟨b, off + fr * 2, none⟩) (k - fr) (cap - fr)) ((l.take k).drop fr) := by
  subst hn
  have h1 : (l.take k).length = k := by rw [List.length_take]; omega
  have h2 : ((l.take k).drop fr).length = k - fr := by rw [List.length_drop, h1]
  refine ⟨_, cap - fr, by rw [h2], fun hp => ?_, (fun e => by cases e), by rw [h2]; omega⟩
  rw [flat_length, h2] at hp
  obtain ⟨b', off', e, hcl⟩ := h (by rw [flat_length]; omega)
  cases e
  refine ⟨b, _, rfl, fun j hj => ?_⟩
  rw [flat_length, h2] at hj
  rw [Nat.add_assoc, hcl (fr * 2 + j) (by rw [flat_length]; omega)]
  have e1 : (flat ((l.take k).drop fr))[j]? = (flat l)[fr * 2 + j]? := by
    rw [flat_drop, flat_take, List.getElem?_drop, List.getElem?_take, if_pos (by omega), Nat.mul_comm]
  rw [List.getElem?_eq_getElem (by rw [flat_length, h2]; omega), List.getElem?_eq_getElem (by rw [flat_length]; omega)] at e1
  exact e1.symm ▸ rfl

set_option maxHeartbeats 800000 in
theorem refRounds_some (w : World) (ao : Option Addr) (cap n : Nat) (l : List E) (h : CellsAt w ao (flat l)) (hn : n = l.length) (hc : n ≤ cap) (hc2 : cap ≤ 9223372036854775807) (hn2 : n ≤ 1000000) (m : Nat) (hm : 1 ≤ m) (hm2 : (m : Int) ≤ 9223372036854775807) :
    Calls Try.prog 19 #[.slice ao n cap, .int .i64 m] w fun e w' => e = .returned (.int .i64 (rounds m l)) ∧ Only [] w w' := by
  have HN := Lib.hid hn
  have H := Lib.hid h
  have HM2 := Lib.hid hm2
  have O0 := Lib.hid (Only.refl [] w)
  have hm3 : decide ((m : Int) < 1) = false := decide_eq_false (by omega)
  have hm4 : 1 ≤ (m : Int) := by omega
  clear h hn hm2
  go_enter Try.func19, Try.ntmps19
  go_wp2_with fail
  go_loopw [5, 6, 7] (fun nv fv i wr => ∃ (k fr r : Nat), k ≤ n ∧ i = .int .i64 k ∧ fv = .int .i64 fr ∧ nv = .int .i64 r ∧ r ≤ k ∧ fr ≤ k ∧ RR m l k fr r ∧ Only [] w wr) (fun _ _ i _ => n - (intOf i).toNat)
  case atStart => exact ⟨0, 0, 0, Nat.zero_le _, rfl, rfl, rfl, Nat.le_refl _, Nat.le_refl _, rr_start m l, O0.out⟩
  case round =>
    obtain ⟨k, fr, r, hk, rfl, rfl, rfl, hr, hf, hrr, hP⟩ := hrel
    have HRR := Lib.hid hrr
    have P := Lib.hid hP
    clear hrr hP
    by_cases hlt : k < n
    · obtain ⟨bl, off, rfl, _⟩ := cells_entry H.out (by have := HN.out; omega)
      have HS := Lib.hid (rr_step hm HRR.out (by have := HN.out; omega))
      have HLen := Lib.hid (compl_len (m := m) (t := (l.take (k + 1)).drop fr) hm)
      have hpl : Hid (((l.take (k + 1)).drop fr).length = k + 1 - fr) := Lib.hid (by rw [List.length_drop, List.length_take]; have := HN.out; omega)
      have HE : Hid (En wr (.slice (some ⟨bl, off + fr * 2, none⟩) (k + 1 - fr) (cap - fr)) ((l.take (k + 1)).drop fr)) := Lib.hid ((en_part H.out HN.out fr (k + 1) (by omega) (by omega) hc).keep P.out)
      obtain ⟨t, ht⟩ : ∃ t, t = (l.take (k + 1)).drop fr := ⟨_, rfl⟩
      rw [← ht] at HS HLen hpl HE
      clear ht
      have hfc : fr < cap := by omega
      have e0 : (k : Int) + 1 - (fr : Int) = ((k + 1 - fr : Nat) : Int) := by omega
      by_cases hg : m < k + 1 - fr
      · have e1 : (m : Int) < (k : Int) + 1 - (fr : Int) := by omega
        have CM : ∀ w', Only [] wr w' → Hid (Calls Try.prog 32 #[.slice (some ⟨bl, off + fr * 2, none⟩) (k + 1 - fr) (cap - fr), .int .i64 m] w' fun e w'' => e = .returned (.bool (complB m t)) ∧ Only [] w' w'') := fun w' o => Lib.hid (by
          obtain ⟨ao', cap', e, h1, _, _⟩ := HE.out.keep o
          rw [hpl.out] at e
          simp at e
          rw [← hpl.out, e.1]
          exact complete_at w' _ _ _ t (by rw [← e.1] at h1 ⊢; exact h1) rfl (by rw [hpl.out]; omega) m hm HM2.out)
        cases hb : complB m t with
        | true =>
          simp only [hb] at CM
          have HB := Lib.hid hb
          clear hb
          go_wp2_with fail
          refine (CM wr (Only.refl _ _)).out.mono ?_; rintro e w1 ⟨rfl, o1⟩
          have P1 := Lib.hid (P.out.then0 o1)
          clear o1 CM
          go_wp2_with fail
          go_roundw
          case rel => exact ⟨k + 1, k + 1, r + 1, by omega, by go_num, by go_num, by go_num, by omega, by omega, HS.out.1 HB.out, P1.out⟩
          case measure => simp [intOf]; omega
        | false =>
          simp only [hb] at CM
          have HB := Lib.hid hb
          clear hb
          go_wp2_with fail
          refine (CM wr (Only.refl _ _)).out.mono ?_; rintro e w1 ⟨rfl, o1⟩
          have P1 := Lib.hid (P.out.then0 o1)
          clear o1 CM
          go_wp2_with fail
          go_roundw
          case rel => exact ⟨k + 1, fr, r, by omega, by go_num, rfl, rfl, by omega, by omega, HS.out.2 HB.out, P1.out⟩
          case measure => simp [intOf]; omega
      · have e1 : ¬ (m : Int) < (k : Int) + 1 - (fr : Int) := by omega
        have e2 : (k : Int) + 1 - (fr : Int) ≤ (m : Int) := by omega
        have HB : Hid (complB m t = false) := Lib.hid (by
          cases hb : complB m t with
          | false => rfl
          | true => have := HLen.out hb; have := hpl.out; omega)
        go_wp2_with fail
        go_roundw
        case rel => exact ⟨k + 1, fr, r, by omega, by go_num, rfl, rfl, by omega, by omega, HS.out.2 HB.out, P.out⟩
        case measure => simp [intOf]; omega
    · obtain rfl : k = n := by omega
      have hfin : Hid (rounds m l = r) := Lib.hid (rr_end (by rw [← HN.out]; exact HRR.out))
      go_wp2_with fail
      go_ret
      exact ⟨ret_int (by rw [hfin.out]), P.out⟩

theorem refRounds_any (w : World) (v : Value) (l : List E) (m : Int) (h : En w v l) (hc : ∀ ao n cap, v = .slice ao n cap → cap ≤ 9223372036854775807) (hn : l.length ≤ 1000000) (hm : m ≤ 9223372036854775807) :
    Calls Try.prog 19 #[v, .int .i64 m] w fun e w' => e = .returned (.int .i64 (roundsI m l)) ∧ Only [] w w' := by
  unfold roundsI
  by_cases h1 : m < 1
  · rw [if_pos h1]
    exact (refRounds_none w v m h1).mono fun e w' h => ⟨h.1, by rw [← h.2]; exact Only.refl _ _⟩
  · rw [if_neg h1]
    obtain ⟨k, rfl⟩ := Int.eq_ofNat_of_zero_le (show 0 ≤ m by omega)
    obtain ⟨ao, cap, rfl, h2, _, h4⟩ := h
    rw [Int.toNat_natCast]
    exact refRounds_some w ao cap _ l h2 rfl h4 (hc _ _ _ rfl) hn k (by omega) hm
end Go.Proofs.Ytfhmphbfngdkeaa
