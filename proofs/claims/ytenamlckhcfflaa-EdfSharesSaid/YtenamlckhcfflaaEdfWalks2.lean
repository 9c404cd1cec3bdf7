/- What Pop, few and Same compute. -/
import Derived.Test.YtenamlckhcfflaaEdfWalks
namespace Go.Proofs.Ytenamlckhcfflaa
open Go.RowKit
set_option linter.unusedVariables false

theorem lesser_no (w : World) (v : Value) (g n cap i : Nat) (hn : n ≤ 1000000) (hi : n ≤ 2 * i + 1) (hi2 : i ≤ 1000000) :
    Calls Try.prog 21 #[.slice (some ⟨g, 0, none⟩) n cap, .int .i64 i] w fun e w' => e = .returned (.int .i64 (-1)) ∧ w = w' := by
  have h1 : (n : Int) ≤ 2 * (i : Int) + 1 := by omega
  go_enter Try.func21, Try.ntmps21
  go_wp2
  go_ret
  exact ⟨rfl, rfl⟩

theorem lesser_yes (w : World) (base : Nat) (T : TypeId) (g n cap i : Nat) (l : List Int) (hown : w.ownsRow base T 1 (.slice (some ⟨g, 0, none⟩) n cap) n (l.map (.int .u64))) (hl : l.length = n) (hn : n ≤ 1000000) (hi : 2 * i + 1 < n) :
    Calls Try.prog 21 #[.slice (some ⟨g, 0, none⟩) n cap, .int .i64 i] w fun e w' => e = .returned (.int .i64 (lesserL l i)) ∧ ∃ q, w' = w.drewN q := by
  have h1 : 2 * (i : Int) + 1 < (n : Int) := by omega
  have h1' : 2 * i + 1 < n := hi
  have c0 := owns_at hown hl (2 * i + 1) hi
  obtain ⟨x, hx⟩ : ∃ x, x = l.getD (2 * i + 1) 0 := ⟨_, rfl⟩
  rw [← hx] at c0
  by_cases hc : 2 * i + 1 + 1 < n
  · have c1 := owns_at hown hl (2 * i + 1 + 1) hc
    obtain ⟨y, hy⟩ : ∃ y, y = l.getD (2 * i + 1 + 1) 0 := ⟨_, rfl⟩
    rw [← hy] at c1
    have h2 : 2 * (i : Int) + 1 + 1 < (n : Int) := by omega
    by_cases hxy : y < x
    · have hr : lesserL l i = 2 * i + 1 + 1 := by unfold lesserL; rw [if_pos ⟨by omega, by rw [← hx, ← hy]; exact hxy⟩]
      rw [hr]
      clear hr hown hx hy hl
      go_enter Try.func21, Try.ntmps21
      go_wp2_with fail
      go_quiet (fail)
      go_wp2_with fail
      go_ret
      exact ⟨ret_int (by omega), _, rfl⟩
    · have hr : lesserL l i = 2 * i + 1 := by unfold lesserL; rw [if_neg (fun h => hxy (by rw [hx, hy]; exact h.2))]
      rw [hr]
      clear hr hown hx hy hl
      go_enter Try.func21, Try.ntmps21
      go_wp2_with fail
      go_quiet (fail)
      go_wp2_with fail
      go_ret
      exact ⟨ret_int (by omega), _, rfl⟩
  · have h2 : (n : Int) ≤ 2 * (i : Int) + 1 + 1 := by omega
    have h3 : decide (2 * (i : Int) + 1 + 1 < (n : Int)) = false := by simpa using h2
    have hr : lesserL l i = 2 * i + 1 := by unfold lesserL; rw [if_neg (fun h => hc (by omega))]
    rw [hr]
    clear hr hown hx hl
    go_enter Try.func21, Try.ntmps21
    go_wp2_with fail
    go_quiet (fail)
    go_wp2_with fail
    go_ret
    exact ⟨ret_int (by omega), _, rfl⟩

theorem cells_take {w : World} {ao : Option Addr} {xs : List Int} (h : CellsAt w ao (xs.map (.int .u64))) (k : Nat) : CellsAt w ao ((xs.take k).map (.int .u64)) := by
  intro hp
  simp only [List.length_map, List.length_take] at hp
  obtain ⟨b, off, e, hc⟩ := h (by simp; omega)
  refine ⟨b, off, e, fun j hj => ?_⟩
  simp only [List.length_map, List.length_take] at hj
  rw [hc j (by simp; omega)]
  simp

theorem popL_more {xs : List Int} (h : 2 ≤ xs.length) : popL xs = downP (xs.getD (xs.length - 1) 0) xs.length 0 (xs.take (xs.length - 1)) := by
  unfold popL; rw [if_neg (by omega)]

theorem pop_empty (w : World) (ao : Option Addr) (cap : Nat) :
    Calls Try.prog 14 #[.slice ao 0 cap] w fun e w' => e = .returned (.tuple #[.int .u64 0, .slice none 0 0, .bool false]) ∧ w = w' := by
  go_enter Try.func14, Try.ntmps14
  go_wp2_with fail
  go_step3
  go_wp2_with fail
  try rw [Exit.noGoto_ret]
  go_ret3
  exact ⟨rfl, rfl⟩

theorem pop_one (w : World) (ao : Option Addr) (cap : Nat) (x : Int) (h : CellsAt w ao ([x].map (.int .u64))) (hcap : 1 ≤ cap) :
    Calls Try.prog 14 #[.slice ao 1 cap] w fun e w' => e = .returned (.tuple #[.int .u64 x, .slice none 0 0, .bool true]) ∧ Only [] w w' := by
  obtain ⟨b, off, rfl, hc⟩ := h.ints (by simp)
  have c0 := hc 0 (by simp)
  simp at c0
  have A := fun (q : Nat) => Lib.hid (cloneU_any (w.drewN q) (some ⟨b, off, none⟩) cap [] (CellsAt.nil _ _) (fun e => by cases e) (by simp))
  clear h hc
  go_enter Try.func14, Try.ntmps14
  go_wp2_with fail
  go_step3
  go_wp2_with fail
  go_quiet (fail)
  go_wp2_with fail
  refine (A _).out.mono ?_; rintro e w1 ⟨v, rfl, o1, hown⟩
  obtain ⟨ao', cap', rfl, _, _, _⟩ := owns_cells hown
  have O1 : Only [] w w1 := ((Only.refl [] w).drewN _).then0 o1
  clear o1 hown
  go_wp2_with fail
  try rw [Exit.noGoto_ret]
  go_ret3
  exact ⟨rfl, O1⟩

set_option maxHeartbeats 800000 in
theorem pop_more (w : World) (ao : Option Addr) (cap n : Nat) (xs : List Int) (h : CellsAt w ao (xs.map (.int .u64))) (hxl : xs.length = n) (hcap : n ≤ cap) (hn : n ≤ 1000000) (hn2 : 2 ≤ n) :
    Calls Try.prog 14 #[.slice ao n cap] w fun e w' => ∃ v, e = .returned (.tuple #[.int .u64 (xs.getD 0 0), v, .bool true]) ∧ Only [] w w' ∧ w'.ownsRow w.heap.size 23 1 v (n - 1) ((popL xs).map (.int .u64)) := by
  obtain ⟨b, off, rfl, hc⟩ := h.ints (by omega)
  have c0 := hc 0 (by omega)
  have c1 := hc (n - 1) (by omega)
  simp only [Nat.add_zero] at c0
  have HP := Lib.hid (popL_more (xs := xs) (by omega))
  have A := fun (q : Nat) => Lib.hid (cloneU_any (w.drewN q) (some ⟨b, off, none⟩) cap (xs.take (n - 1)) (cells_take h _) (fun e => by cases e) (by simp; omega))
  simp only [List.length_take, hxl, show min (n - 1) n = n - 1 from by omega] at A
  obtain ⟨y, hy⟩ : ∃ y, y = xs.getD (n - 1) 0 := ⟨_, rfl⟩
  obtain ⟨x, hx⟩ : ∃ x, x = xs.getD 0 0 := ⟨_, rfl⟩
  rw [← hy] at c1
  rw [← hx] at c0 ⊢
  have HY := Lib.hid hy
  have HL := Lib.hid hxl
  clear h hc hy hx hxl
  obtain ⟨m, rfl⟩ : ∃ m, n = m + 1 := ⟨n - 1, by omega⟩
  simp only [Nat.add_sub_cancel] at c1 A ⊢
  have hm0 : 0 < m := by omega
  go_enter Try.func14, Try.ntmps14
  go_wp2_with fail
  go_step3
  go_wp2_with fail
  go_quiet (fail)
  go_wp2_with fail
  refine (A _).out.mono ?_; rintro e w1 ⟨v, rfl, o1, hown⟩
  obtain ⟨g, cp, rfl, hg, hg2, hcp, hcp2⟩ := owns_shape hown (fun e => by have := (hown.2.resolve_right (by rintro ⟨g, c, cur, e', _⟩; rw [e] at e'; cases e')).2; omega)
  have P1 := Lib.hid (((Only.refl [] w).drewN nq).then0 o1)
  have W1 : Hid (w1.ownsRow w.heap.size 23 1 (.slice (some ⟨g, 0, none⟩) m cp) m ((xs.take m).map (.int .u64))) := Lib.hid hown
  have hg' : w.heap.size ≤ g := hg
  clear o1 hown A hg c0 c1
  go_wp2_with fail
  go_step3
  go_wp2_with fail
  have hm1 : ((m : Int) == 0) = false := by simpa using (show m ≠ 0 by omega)
  try rw [hm1]
  go_loopw [8] (fun i wr => ∃ (f j : Nat) (l : List Int), i = .int .i64 j ∧ j < m ∧ m ≤ f + j ∧ l.length = m ∧ downP y f j l = popL xs ∧ wr.ownsRow w.heap.size 23 1 (.slice (some ⟨g, 0, none⟩) m cp) m (l.map (.int .u64)) ∧ Only [] w wr)
    (fun i _ => m - (intOf i).toNat)
  case atStart => exact ⟨m + 1, 0, xs.take m, rfl, hm0, by omega, by simp [HL.out], by rw [HP.out, HL.out, HY.out]; rfl, W1.out, P1.out⟩
  case round =>
    obtain ⟨f, j, l, rfl, hjm, hf, hll, hdn, hown, hP⟩ := hrel
    have P := Lib.hid hP
    have W := Lib.hid hown
    have HD := Lib.hid hdn
    have HLL := Lib.hid hll
    have f0 := hown.frozenAt j
    have cj := owns_at hown hll j hjm
    clear hP hown hll hdn P1 W1
    by_cases hch : 2 * j + 1 < m
    · obtain ⟨f', rfl⟩ : ∃ f', f = f' + 1 := ⟨f - 1, by omega⟩
      have hlt := lesserL_lt (l := l) (i := j) (by rw [HLL.out]; exact hch)
      have hgt := lesserL_gt l j
      rw [HLL.out] at hlt
      have cc := fun (q : Nat) => owns_at (owns_drewN W.out q) HLL.out (lesserL l j) hlt
      obtain ⟨c, hc⟩ : ∃ c, c = lesserL l j := ⟨_, rfl⟩
      obtain ⟨z, hz⟩ : ∃ z, z = l.getD (lesserL l j) 0 := ⟨_, rfl⟩
      have B := Lib.hid (lesser_yes wr _ _ g m cp j l W.out HLL.out (by omega) hch)
      rw [← hz] at cc
      rw [← hc] at cc B hlt hgt
      have HC := Lib.hid hc
      have HZ := Lib.hid hz
      have hcm : (c : Int) < (m : Int) := by omega
      clear hc hz
      by_cases hyz : z < y
      · have hdn' : downP y f' c (l.set j z) = popL xs := by
          have := HD.out
          unfold downP at this
          rw [if_pos ⟨by rw [HLL.out]; exact hch, by rw [← HZ.out]; exact hyz⟩, ← HZ.out, ← HC.out] at this
          exact this
        have HD' := Lib.hid hdn'
        clear hdn'
        go_wp2_with fail
        refine B.out.mono ?_; rintro e w2 ⟨rfl, q, rfl⟩
        have ccq := cc q
        clear cc
        go_wp2_with fail
        go_roundw
        case rel => exact ⟨f', c, l.set j z, rfl, by omega, by omega, by simp [HLL.out], HD'.out, owns_set (owns_drewN W.out q) j z, (P.out.drewN q).setCell (p := ⟨g, j, none⟩) (.inr hg') _⟩
        case measure => simp [intOf]; omega
      · have hfin : l.set j y = popL xs := by
          have := HD.out
          unfold downP at this
          rw [if_neg (fun h => hyz (by rw [HZ.out]; exact h.2))] at this
          exact this
        have HF := Lib.hid hfin
        clear hfin
        go_wp2_with fail
        refine B.out.mono ?_; rintro e w2 ⟨rfl, q, rfl⟩
        have ccq := cc q
        clear cc
        go_wp2_with fail
        try rw [Exit.noGoto_ret]
        go_ret3
        exact ⟨_, rfl, (P.out.drewN q).setCell (.inr hg') _, by rw [← HF.out]; exact owns_set (owns_drewN W.out q) j y⟩
    · have hfin : l.set j y = popL xs := by
        have := HD.out
        cases f with
        | zero => exact this
        | succ f => unfold downP at this; rw [if_neg (fun h => hch (by rw [← HLL.out]; exact h.1))] at this; exact this
      have HF := Lib.hid hfin
      have B := Lib.hid (lesser_no wr (.slice (some ⟨g, 0, none⟩) m cp) g m cp j (by omega) (by omega) (by omega))
      clear hfin
      go_wp2_with fail
      refine B.out.mono ?_; rintro e w2 ⟨rfl, rfl⟩
      go_wp2_with fail
      try rw [Exit.noGoto_ret]
      go_ret3
      exact ⟨_, rfl, P.out.setCell (.inr hg') _, by rw [← HF.out]; exact owns_set W.out j y⟩
end Go.Proofs.Ytenamlckhcfflaa
