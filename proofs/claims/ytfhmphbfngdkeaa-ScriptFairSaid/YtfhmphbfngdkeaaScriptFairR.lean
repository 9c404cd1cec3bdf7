/- What Fair of the reference computes. -/
import Derived.Test.YtfhmphbfngdkeaaScriptFairP
namespace Go.Proofs.Ytfhmphbfngdkeaa
open Go.RowKit
set_option linter.unusedVariables false

theorem refFair_none (w : World) (v : Value) (m k : Int) (h : m < 1 ∨ k < 1) :
    Calls Try.prog 25 #[v, .int .i64 m, .int .i64 k] w fun e w' => e = .returned (.bool false) ∧ w = w' := by
  by_cases hm : m < 1
  · clear h
    go_enter Try.func25, Try.ntmps25
    go_wp2_with fail
    go_ret
    exact ⟨rfl, rfl⟩
  · have hk : k < 1 := by omega
    clear h
    go_enter Try.func25, Try.ntmps25
    go_wp2_with fail
    go_ret
    exact ⟨rfl, rfl⟩

set_option maxRecDepth 100000 in
set_option maxHeartbeats 1600000 in
theorem refFair_some (w : World) (ao : Option Addr) (cap n : Nat) (l : List E) (h : CellsAt w ao (flat l)) (hn : n = l.length) (hc : n ≤ cap) (hc2 : cap ≤ 9223372036854775807) (hn2 : n ≤ 1000000) (m : Nat) (hm : 1 ≤ m) (hm2 : (m : Int) ≤ 9223372036854775807) (k : Nat) (hk : 1 ≤ k) (hk2 : (k : Int) ≤ 9223372036854775807) :
    Calls Try.prog 25 #[.slice ao n cap, .int .i64 m, .int .i64 k] w fun e w' => e = .returned (.bool (fairB m k l)) ∧ Only [] w w' := by
  have HN := Lib.hid hn
  have H := Lib.hid h
  have HM2 := Lib.hid hm2
  have hm4 : 1 ≤ (m : Int) := by omega
  have hk4 : 1 ≤ (k : Int) := by omega
  clear h hn hm2
  go_enter Try.func25, Try.ntmps25
  go_wp2_with fail
  go_loopw [7] (fun iv wr => ∃ (i : Nat), i ≤ n + 1 ∧ iv = .int .i64 i ∧ (∀ j, j < i → complB m ((l.take (j + k)).drop j) = true) ∧ Only [] w wr) (fun iv _ => n + 1 - (intOf iv).toNat)
  case atStart => exact ⟨0, Nat.zero_le _, rfl, fun j hj => by omega, Only.refl _ _⟩
  case round =>
    obtain ⟨i, hi, rfl, hwin, hP⟩ := hrel
    have HW := Lib.hid hwin
    have P := Lib.hid hP
    clear hwin hP
    by_cases hlt : i + k ≤ n
    · have hlt2 : (i : Int) ≤ (n : Int) - (k : Int) := by omega
      obtain ⟨bl, off, rfl, _⟩ := cells_entry H.out (by have := HN.out; omega)
      have hpl : Hid (((l.take (i + k)).drop i).length = k) := Lib.hid (by rw [List.length_drop, List.length_take]; have := HN.out; omega)
      have HE : Hid (En wr (.slice (some ⟨bl, off + i * 2, none⟩) k (cap - i)) ((l.take (i + k)).drop i)) := Lib.hid (by
        have := (en_part H.out HN.out i (i + k) (by omega) (by omega) hc).keep P.out
        rwa [show i + k - i = k by omega] at this)
      have HNext : Hid (complB m ((l.take (i + k)).drop i) = true → ∀ j, j < i + 1 → complB m ((l.take (j + k)).drop j) = true) := Lib.hid (fun h j hj => by
        by_cases e : j = i
        · rw [e]; exact h
        · exact HW.out j (by omega))
      have HNot : Hid (complB m ((l.take (i + k)).drop i) = false → fairB m k l = false) := Lib.hid (fun h => decide_eq_false fun hf => by
        rw [hf i (by have := HN.out; omega)] at h; cases h)
      obtain ⟨t, ht⟩ : ∃ t, t = (l.take (i + k)).drop i := ⟨_, rfl⟩
      rw [← ht] at hpl HE HNext HNot
      clear ht
      have hfc : i < cap := by omega
      have CM : ∀ w', Only [] wr w' → Hid (Calls Try.prog 32 #[.slice (some ⟨bl, off + i * 2, none⟩) k (cap - i), .int .i64 m] w' fun e w'' => e = .returned (.bool (complB m t)) ∧ Only [] w' w'') := fun w' o => Lib.hid (by
        obtain ⟨ao', cap', e, h1, _, _⟩ := HE.out.keep o
        rw [hpl.out] at e
        simp at e
        have h2 := complete_at w' _ (cap - i) k t (by rw [← e.1] at h1; exact h1) hpl.out.symm (by omega) m hm HM2.out
        exact h2)
      cases hb : complB m t with
      | true =>
        simp only [hb] at CM
        have HB := Lib.hid (HNext.out hb)
        clear hb
        go_wp2_with fail
        refine (CM wr (Only.refl _ _)).out.mono ?_; rintro e w1 ⟨rfl, o1⟩
        have P1 := Lib.hid (P.out.then0 o1)
        clear o1 CM
        go_wp2_with fail
        go_roundw
        case rel => exact ⟨i + 1, by omega, by go_num, HB.out, P1.out⟩
        case measure => simp [intOf]; omega
      | false =>
        simp only [hb] at CM
        have HB := Lib.hid (HNot.out hb)
        clear hb
        go_wp2_with fail
        refine (CM wr (Only.refl _ _)).out.mono ?_; rintro e w1 ⟨rfl, o1⟩
        have P1 := Lib.hid (P.out.then0 o1)
        clear o1 CM
        go_wp2_with fail
        go_ret
        exact ⟨by rw [HB.out]; rfl, P1.out⟩
    · have hlt2 : ¬ (i : Int) ≤ (n : Int) - (k : Int) := by omega
      have HT : Hid (fairB m k l = true) := Lib.hid (fair_true (fun j hj => HW.out j (by have := HN.out; omega)))
      go_wp2_with fail
      go_ret
      exact ⟨by rw [HT.out]; rfl, P.out⟩

theorem refFair_any (w : World) (v : Value) (l : List E) (m k : Int) (h : En w v l) (hc : ∀ ao n cap, v = .slice ao n cap → cap ≤ 9223372036854775807) (hn : l.length ≤ 1000000) (hm : m ≤ 9223372036854775807) (hk : k ≤ 9223372036854775807) :
    Calls Try.prog 25 #[v, .int .i64 m, .int .i64 k] w fun e w' => e = .returned (.bool (fairI m k l)) ∧ Only [] w w' := by
  unfold fairI
  by_cases h1 : m < 1 ∨ k < 1
  · rw [show (decide (1 ≤ m) && decide (1 ≤ k) && fairB m.toNat k.toNat l) = false by rcases h1 with h1 | h1 <;> simp <;> omega]
    exact (refFair_none w v m k h1).mono fun e w' h => ⟨h.1, by rw [← h.2]; exact Only.refl _ _⟩
  · obtain ⟨m, rfl⟩ := Int.eq_ofNat_of_zero_le (show 0 ≤ m by omega)
    obtain ⟨k, rfl⟩ := Int.eq_ofNat_of_zero_le (show 0 ≤ k by omega)
    rw [show (decide ((1 : Int) ≤ m) && decide ((1 : Int) ≤ k) && fairB (m : Int).toNat (k : Int).toNat l) = fairB m k l by
      rw [decide_eq_true (by omega), decide_eq_true (by omega)]; rfl]
    obtain ⟨ao, cap, rfl, h2, _, h4⟩ := h
    exact refFair_some w ao cap _ l h2 rfl h4 (hc _ _ _ rfl) hn m (by omega) hm k (by omega) hk
end Go.Proofs.Ytfhmphbfngdkeaa
