/- What the reference's Pop computes. -/
import Derived.Test.YtenamlckhcfflaaEdfWalks2
namespace Go.Proofs.Ytenamlckhcfflaa
open Go.RowKit
set_option linter.unusedVariables false

theorem refPop_empty (w : World) (ao : Option Addr) (cap : Nat) :
    Calls Try.prog 15 #[.slice ao 0 cap] w fun e w' => e = .returned (.tuple #[.int .u64 0, .slice none 0 0, .bool false]) ∧ w = w' := by
  go_enter Try.func15, Try.ntmps15
  go_wp2_with fail
  go_ret3
  exact ⟨rfl, rfl⟩

theorem downR_start (y : Int) (f : Nat) (l : List Int) : downR y f 0 (l.set 0 y) = downP y f 0 l := downR_eq y f 0 l

set_option maxHeartbeats 400000 in
theorem refPop_one (w : World) (ao : Option Addr) (cap : Nat) (x : Int) (h : CellsAt w ao ([x].map (.int .u64))) (hcap : 1 ≤ cap) :
    Calls Try.prog 15 #[.slice ao 1 cap] w fun e w' => ∃ v, e = .returned (.tuple #[.int .u64 x, v, .bool true]) ∧ Only [] w w' ∧ w'.ownsRow w.heap.size 23 1 v 0 [] := by
  obtain ⟨i0, hi, hz0, hz1, hz2⟩ := info_parts info64
  obtain ⟨b, off, rfl, hc⟩ := h.ints (by simp)
  have c0 := hc 0 (by simp)
  simp at c0
  have HO : Hid ((w.alloc (.cells #[] 23)).ownsRow w.heap.size 23 1 (.slice (some ⟨w.heap.size, 0, none⟩) 0 0) 0 []) := Lib.hid (World.ownsRow_made w #[] 0 (Nat.le_refl _) (by simp) rfl)
  have C0 := Lib.hid c0
  clear h hc c0
  go_enter Try.func15, Try.ntmps15
  go_wp2_with (at_builtin; refine wpList_append_own _ rfl _ _ 22 rfl w.heap.size 23 i0 (.int .u64 0) 1 8 Try.underlying22 hi hz0 hz1 hz2 rfl (by decide) _ _ _ rfl HO.out ⟨b, off, none⟩ 0 cap [] rfl rfl (by simp) (by simp) (by decide) (by decide) (by simp) ?_)
  intro v1 w1 hown1 hgrow1 hnil1
  have O1 := ((Only.refl [] w).alloc (.cells #[] 23)).grown hgrow1 (by simp [Value.ownBlock])
  have c1 := O1.keepCell C0.out (by simp)
  have W1 := Lib.hid hown1
  clear hown1 hgrow1 hnil1
  go_wp2_with fail
  go_ret3
  exact ⟨_, rfl, O1, by simpa using W1.out⟩

set_option maxHeartbeats 1600000 in
theorem refPop_more (w : World) (ao : Option Addr) (cap n : Nat) (xs : List Int) (h : CellsAt w ao (xs.map (.int .u64))) (hxl : xs.length = n) (hcap : n ≤ cap) (hn : n ≤ 1000000) (hn2 : 2 ≤ n) :
    Calls Try.prog 15 #[.slice ao n cap] w fun e w' => ∃ v, e = .returned (.tuple #[.int .u64 (xs.getD 0 0), v, .bool true]) ∧ Only [] w w' ∧ w'.ownsRow w.heap.size 23 1 v (n - 1) ((popL xs).map (.int .u64)) := by
  obtain ⟨i0, hi, hz0, hz1, hz2⟩ := info_parts info64
  obtain ⟨b, off, rfl, hc⟩ := h.ints (by omega)
  have c0 := hc 0 (by omega)
  have c1 := hc (n - 1) (by omega)
  simp only [Nat.add_zero] at c0
  have HP := Lib.hid (popL_more (xs := xs) (by omega))
  have HO : Hid ((w.alloc (.cells #[] 23)).ownsRow w.heap.size 23 1 (.slice (some ⟨w.heap.size, 0, none⟩) 0 0) 0 []) := Lib.hid (World.ownsRow_made w #[] 0 (Nat.le_refl _) (by simp) rfl)
  have hF : ∀ j u, ((xs.take (n - 1)).map (Value.int .u64))[j]? = some u → (w.alloc (.cells #[] 23)).cell? ((⟨b, off, none⟩ : Addr).add j) = some u := ((cells_take h (n - 1)).keep0 ((Only.refl [] w).alloc _)).news
  have F := Lib.hid hF
  obtain ⟨y, hy⟩ : ∃ y, y = xs.getD (n - 1) 0 := ⟨_, rfl⟩
  obtain ⟨x, hx⟩ : ∃ x, x = xs.getD 0 0 := ⟨_, rfl⟩
  rw [← hy] at c1
  rw [← hx] at c0 ⊢
  have HY := Lib.hid hy
  have HL := Lib.hid hxl
  obtain ⟨m, rfl⟩ : ∃ m, n = m + 1 := ⟨n - 1, by omega⟩
  simp only [Nat.add_sub_cancel] at c1 F ⊢
  have C0 := Lib.hid c0
  have C1 := Lib.hid c1
  clear h hc hy hx hF c0 c1
  have hm0 : 0 < m := by omega
  go_enter Try.func15, Try.ntmps15
  go_wp2_with (at_builtin; refine wpList_append_own _ rfl _ _ 22 rfl w.heap.size 23 i0 (.int .u64 0) 1 8 Try.underlying22 hi hz0 hz1 hz2 rfl (by decide) _ _ _ rfl HO.out ⟨b, off, none⟩ m cap ((xs.take m).map (.int .u64)) rfl (by simp [hxl]) F.out (oneCell_u64 _) (by unfold maxLen; omega) (by omega) (by simp) ?_)
  intro v1 w1 hown1 hgrow1 hnil1
  have hnil1' : v1 ≠ .slice none 0 0 := by simpa using hnil1
  try simp only [Nat.zero_add, List.nil_append] at hown1
  obtain ⟨g, cp, rfl, hg, hg2, hcp, hcp2⟩ := owns_shape hown1 hnil1'
  have O1 := Lib.hid (((Only.refl [] w).alloc (.cells #[] 23)).grown hgrow1 (by simp [Value.ownBlock]))
  have W1 : Hid (w1.ownsRow w.heap.size 23 1 (.slice (some ⟨g, 0, none⟩) m cp) m ((xs.take m).map (.int .u64))) := Lib.hid (by simpa using hown1)
  have hg' : w.heap.size ≤ g := hg
  have d1 := O1.out.keepCell C1.out (by simp)
  have f0 := hown1.frozenAt 0
  have e0 := owns_at W1.out (by simp [hxl]) 0 hm0
  clear hown1 hgrow1 hnil1 hnil1' hg HO hxl
  have W2 := Lib.hid (owns_set W1.out 0 y)
  have P2 := Lib.hid (O1.out.setCell (p := ⟨g, 0, none⟩) (.inr hg') (.int .u64 y))
  go_wp2_with fail
  go_loopw [8] (fun i wr => ∃ (f j : Nat) (l : List Int), i = .int .i64 j ∧ j < m ∧ m ≤ f + j ∧ l.length = m ∧ downR y f j l = popL xs ∧ wr.ownsRow w.heap.size 23 1 (.slice (some ⟨g, 0, none⟩) m cp) m (l.map (.int .u64)) ∧ Only [] w wr)
    (fun i _ => m - (intOf i).toNat)
  case atStart => exact ⟨m + 1, 0, (xs.take m).set 0 y, rfl, hm0, by omega, by simp [HL.out], by rw [HP.out, HL.out, HY.out]; exact downR_eq _ _ _ _, W2.out, P2.out⟩
  case round =>
    obtain ⟨f, j, l, rfl, hjm, hf, hll, hdn, hown, hP⟩ := hrel
    have P := Lib.hid hP
    have W := Lib.hid hown
    have HD := Lib.hid hdn
    have HLL := Lib.hid hll
    clear hP hown hll hdn P2 W2 O1 W1
    have ff := fun (q : Nat) => W.out.frozenAt q
    have cj := fun (q : Nat) (hq : q < m) => owns_at W.out HLL.out q hq
    by_cases hch : 2 * j + 1 < m
    · obtain ⟨f', rfl⟩ : ∃ f', f = f' + 1 := ⟨f - 1, by omega⟩
      have hlt := lesserL_lt (l := l) (i := j) (by rw [HLL.out]; exact hch)
      have hgt := lesserL_gt l j
      rw [HLL.out] at hlt
      obtain ⟨c, hc⟩ : ∃ c, c = lesserL l j := ⟨_, rfl⟩
      obtain ⟨z, hz⟩ : ∃ z, z = l.getD c 0 := ⟨_, rfl⟩
      rw [← hc] at hlt hgt
      have HC := Lib.hid hc
      have HZ := Lib.hid hz
      have hk : (z < y ∧ Hid (downR y f' c ((l.set j z).set c y) = popL xs)) ∨ (y ≤ z ∧ Hid (l = popL xs)) := by
        have := HD.out
        unfold downR at this
        by_cases hyz : z < y
        · rw [if_pos ⟨by rw [HLL.out]; exact hch, by rw [← hc, ← hz]; exact hyz⟩, ← hc, ← hz] at this
          exact .inl ⟨hyz, Lib.hid this⟩
        · rw [if_neg (fun h => hyz (by rw [hz, hc]; exact h.2))] at this
          exact .inr ⟨by omega, Lib.hid this⟩
      have hcc : (2 * j + 1 + 1 < m ∧ l.getD (2 * j + 1 + 1) 0 < l.getD (2 * j + 1) 0 ∧ c = 2 * j + 1 + 1) ∨ (2 * j + 1 + 1 < m ∧ l.getD (2 * j + 1) 0 ≤ l.getD (2 * j + 1 + 1) 0 ∧ c = 2 * j + 1) ∨ (m ≤ 2 * j + 1 + 1 ∧ c = 2 * j + 1) := by
        rw [hc]; unfold lesserL; rw [HLL.out]; split <;> omega
      have cz := cj c hlt
      have cjj := cj j hjm
      have c1 := cj (2 * j + 1) hch
      have f0 := ff j
      have f1 := ff c
      rw [← hz] at cz
      have h1 : 2 * (j : Int) + 1 < (m : Int) := by omega
      clear hc hz cj ff
      rcases hcc with ⟨h2, h3, rfl⟩ | ⟨h2, h3, rfl⟩ | ⟨h2, rfl⟩
      · have c2 := cz
        rw [← HZ.out] at h3
        obtain ⟨u, hu⟩ : ∃ u, u = l.getD (2 * j + 1) 0 := ⟨_, rfl⟩
        rw [← hu] at c1 h3
        have h2' : 2 * (j : Int) + 1 + 1 < (m : Int) := by omega
        clear hu
        rcases hk with ⟨hyz, HN⟩ | ⟨hyz, HN⟩
        · go_wp2_with fail
          go_quiet (fail)
          go_wp2_with fail
          go_roundw
          case rel => exact ⟨f', 2 * j + 1 + 1, (l.set j z).set (2 * j + 1 + 1) y, congrArg (Value.int .i64) (by omega), by omega, by omega, by simp [HLL.out], HN.out, owns_set (owns_set (owns_drewN W.out _) j z) (2 * j + 1 + 1) y, ((P.out.drewN _).setCell (p := ⟨g, j, none⟩) (.inr hg') _).setCell (p := ⟨g, 2 * j + 1 + 1, none⟩) (.inr hg') _⟩
          case measure => simp [intOf]; omega
        · have d0 := fun (q : Nat) => (P.out.drewN q).keepCell C0.out (by simp)
          clear d1
          go_wp2_with fail
          go_quiet (fail)
          go_wp2_with fail
          go_ret3
          exact ⟨_, rfl, P.out.drewN _, by rw [← HN.out]; exact owns_drewN W.out _⟩
      · have c2 := owns_at W.out HLL.out (2 * j + 1 + 1) h2
        rw [← HZ.out] at h3
        clear c1
        obtain ⟨u, hu⟩ : ∃ u, u = l.getD (2 * j + 1 + 1) 0 := ⟨_, rfl⟩
        rw [← hu] at c2 h3
        have h2' : 2 * (j : Int) + 1 + 1 < (m : Int) := by omega
        clear hu
        rcases hk with ⟨hyz, HN⟩ | ⟨hyz, HN⟩
        · go_wp2_with fail
          go_quiet (fail)
          go_wp2_with fail
          go_roundw
          case rel => exact ⟨f', 2 * j + 1, (l.set j z).set (2 * j + 1) y, congrArg (Value.int .i64) (by omega), by omega, by omega, by simp [HLL.out], HN.out, owns_set (owns_set (owns_drewN W.out _) j z) (2 * j + 1) y, ((P.out.drewN _).setCell (p := ⟨g, j, none⟩) (.inr hg') _).setCell (p := ⟨g, 2 * j + 1, none⟩) (.inr hg') _⟩
          case measure => simp [intOf]; omega
        · have d0 := fun (q : Nat) => (P.out.drewN q).keepCell C0.out (by simp)
          clear d1
          go_wp2_with fail
          go_quiet (fail)
          go_wp2_with fail
          go_ret3
          exact ⟨_, rfl, P.out.drewN _, by rw [← HN.out]; exact owns_drewN W.out _⟩
      · clear c1
        have h2' : (m : Int) ≤ 2 * (j : Int) + 1 + 1 := by omega
        have h3 : decide (2 * (j : Int) + 1 + 1 < (m : Int)) = false := by simpa using h2'
        rcases hk with ⟨hyz, HN⟩ | ⟨hyz, HN⟩
        · go_wp2_with fail
          go_quiet (fail)
          go_wp2_with fail
          go_roundw
          case rel => exact ⟨f', 2 * j + 1, (l.set j z).set (2 * j + 1) y, congrArg (Value.int .i64) (by omega), by omega, by omega, by simp [HLL.out], HN.out, owns_set (owns_set (owns_drewN W.out _) j z) (2 * j + 1) y, ((P.out.drewN _).setCell (p := ⟨g, j, none⟩) (.inr hg') _).setCell (p := ⟨g, 2 * j + 1, none⟩) (.inr hg') _⟩
          case measure => simp [intOf]; omega
        · have d0 := fun (q : Nat) => (P.out.drewN q).keepCell C0.out (by simp)
          clear d1
          go_wp2_with fail
          go_quiet (fail)
          go_wp2_with fail
          go_ret3
          exact ⟨_, rfl, P.out.drewN _, by rw [← HN.out]; exact owns_drewN W.out _⟩
    · have hfin : l = popL xs := by
        have := HD.out
        cases f with
        | zero => exact this
        | succ f => unfold downR at this; rw [if_neg (fun h => hch (by rw [← HLL.out]; exact h.1))] at this; exact this
      have HN := Lib.hid hfin
      have h2' : (m : Int) ≤ 2 * (j : Int) + 1 := by omega
      have d0 := P.out.keepCell C0.out (by simp)
      clear hfin cj ff d1 f0
      go_wp2_with fail
      go_ret3
      exact ⟨_, rfl, P.out, by rw [← HN.out]; exact W.out⟩
end Go.Proofs.Ytenamlckhcfflaa
