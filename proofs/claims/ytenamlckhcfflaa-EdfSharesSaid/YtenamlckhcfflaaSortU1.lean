/- Sorting words: the row, the comparison, sorting by insertion, the heap's sort, turning a range round. -/
import Derived.Test.YtenamlckhcfflaaRows
import Derived.Test.YtenamlckhcfflaaKit
import Derived.WalkSpells
import Derived.Deep.QuietTactic
import Derived.BigQuiet
import Derived.Sort.Lot0
namespace Go.Proofs.Ytenamlckhcfflaa
open Go.RowKit Go.Sort
set_option linter.unusedVariables false

/-- The words d lie at the head of block b. -/
def Rw (w : World) (b : Nat) (d : Array Int) : Prop := ∃ arr T, w.heap[b]? = some (.cells arr T (0, 0)) ∧ ∀ j, j < d.size → arr[j]? = some (.int .u64 d[j]!)

theorem Rw.cell {w : World} {b : Nat} {d : Array Int} (h : Rw w b d) (j : Nat) (hj : j < d.size) : w.cell? ⟨b, j, none⟩ = some (.int .u64 d[j]!) := by
  obtain ⟨arr, T, h1, h2⟩ := h
  rw [cell_blk h1, h2 j hj]
theorem Rw.free {w : World} {b : Nat} {d : Array Int} (h : Rw w b d) (j : Nat) : w.frozen? ⟨b, j, none⟩ = false := by
  obtain ⟨arr, T, h1, _⟩ := h
  exact free_blk h1 j
theorem Rw.keep {S : List Nat} {w w' : World} {b : Nat} {d : Array Int} (h : Rw w b d) (o : Only S w w') (hb : b ∉ S) : Rw w' b d := by
  obtain ⟨arr, T, h1, h2⟩ := h
  exact ⟨arr, T, o.keep h1 hb, h2⟩
theorem Rw.lt {w : World} {b : Nat} {d : Array Int} (h : Rw w b d) : b < w.heap.size := by
  obtain ⟨arr, T, h1, _⟩ := h
  exact lt_of_blk h1
theorem Rw.swp {w : World} {b i j : Nat} {d : Array Int} (h : Rw w b d) (hi : i < d.size) (hj : j < d.size) :
    Rw ((w.setCell ⟨b, i, none⟩ (.int .u64 d[j]!)).setCell ⟨b, j, none⟩ (.int .u64 d[i]!)) b (swp d i j) := by
  obtain ⟨arr, T, h1, h2⟩ := h
  refine ⟨_, T, blk_setCell (blk_setCell h1 i _) j _, fun k hk => ?_⟩
  rw [size_swp] at hk
  have hai : i < arr.size := by
    rcases Nat.lt_or_ge i arr.size with g | g
    · exact g
    · have := h2 i hi; rw [Array.getElem?_eq_none g] at this; cases this
  have haj : j < arr.size := by
    rcases Nat.lt_or_ge j arr.size with g | g
    · exact g
    · have := h2 j hj; rw [Array.getElem?_eq_none g] at this; cases this
  by_cases e1 : k = j
  · subst e1
    rw [Array.getElem?_setIfInBounds_self_of_lt (by simpa using haj), swp_right d i k hj]
  · rw [Array.getElem?_setIfInBounds_ne (Ne.symm e1)]
    by_cases e2 : k = i
    · subst e2
      rw [Array.getElem?_setIfInBounds_self_of_lt hai, swp_left d k j hi e1]
    · rw [Array.getElem?_setIfInBounds_ne (Ne.symm e2), h2 k hk, swp_other d i j k e2 e1]

theorem only_swp (w : World) (b i j : Nat) (x y : Value) : Only [b] w ((w.setCell ⟨b, i, none⟩ x).setCell ⟨b, j, none⟩ y) :=
  ((Only.refl [b] w).setCell (by simp) _).setCell (by simp) _

theorem isNaN_any (x : Int) (w : World) : Calls Try.prog 41 #[.int .u64 x] w fun e w' => e = .returned (.bool false) ∧ w' = w := by
  go_enter Try.func41, Try.ntmps41
  go_wp2
  go_ret
  exact ⟨by simp, rfl⟩

theorem less_any (x y : Int) (w : World) : Calls Try.prog 31 #[.int .u64 x, .int .u64 y] w fun e w' => e = .returned (.bool (ltInt x y)) ∧ w' = w := by
  go_enter Try.func31, Try.ntmps31
  go_wp2_with (go_at_call 41; refine (isNaN_any _ _).mono ?_; rintro e w' ⟨rfl, rfl⟩)
  go_ret
  exact ⟨rfl, rfl⟩

theorem insInner_go {a j : Nat} {d : Array Int} (h : a < j) (hl : ltInt d[j]! d[j - 1]! = true) : insInner ltInt a j d = insInner ltInt a (j - 1) (Sort.swp d j (j - 1)) := by
  obtain ⟨i, rfl⟩ : ∃ i, j = i + 1 := ⟨j - 1, by omega⟩
  rw [insInner]
  simp only [Nat.add_sub_cancel] at hl ⊢
  rw [if_pos (by simp [hl]; omega)]
theorem insInner_stop {a j : Nat} {d : Array Int} (h : j ≤ a ∨ ltInt d[j]! d[j - 1]! = false) : insInner ltInt a j d = d := by
  cases j with
  | zero => rfl
  | succ i =>
    rw [insInner]
    simp only [Nat.add_sub_cancel] at h
    rw [if_neg]
    rcases h with h | h
    · simp; intro h2; omega
    · simp [h]

theorem insOuter_step {a e i : Nat} {d : Array Int} (h : i < e) : insOuter ltInt a e i d = insOuter ltInt a e (i + 1) (insInner ltInt a i d) := by
  rw [insOuter, if_pos h]
theorem insOuter_stop {a e i : Nat} {d : Array Int} (h : ¬ i < e) : insOuter ltInt a e i d = d := by
  rw [insOuter, if_neg h]

/-- What a function that turns the row about comes to. -/
def RowEnd (b : Nat) (w : World) (v : Value) (d : Array Int) (e : Ending) (w' : World) : Prop := e = .returned v ∧ Only [b] w w' ∧ Rw w' b d

set_option maxRecDepth 100000 in
theorem ins_any (w : World) (b cap n a e : Nat) (d : Array Int) (h : Rw w b d) (hn : d.size = n) (he : e ≤ n) (hae : a ≤ e) (hsz : n ≤ 4000000000000) :
    Calls Try.prog 25 #[.slice (some ⟨b, 0, none⟩) n cap, .int .i64 a, .int .i64 e] w (RowEnd b w (.tuple #[]) (insertionSort ltInt d a e)) := by
  have H := Lib.hid h
  have HN := Lib.hid hn
  clear h hn
  go_enter Try.func25, Try.ntmps25
  go_wp2_with fail
  go_loopw [6] (fun vi wr => ∃ (i : Nat) (dk : Array Int), vi = .int .i64 i ∧ a < i ∧ i ≤ e + 1 ∧ dk.size = n ∧ Only [b] w wr ∧ Rw wr b dk ∧ insOuter ltInt a e i dk = insertionSort ltInt d a e) (fun i _ => e + 1 - (intOf i).toNat)
  case atStart => exact ⟨a + 1, d, by go_num, by omega, by omega, HN.out, Only.refl _ _, H.out, rfl⟩
  case round =>
    obtain ⟨i, dk, rfl, hai, hie, hk, hO, hR, hI⟩ := hrel
    have HO := Lib.hid hO
    have HR := Lib.hid hR
    have HI := Lib.hid hI
    have HK := Lib.hid hk
    clear hO hR hI hk
    by_cases hlt : i < e
    · go_wp2_with fail
      go_loopw [7] (fun vj wr2 => ∃ (j : Nat) (dj : Array Int), vj = .int .i64 j ∧ a ≤ j ∧ j ≤ i ∧ dj.size = n ∧ Only [b] w wr2 ∧ Rw wr2 b dj ∧ insInner ltInt a j dj = insInner ltInt a i dk) (fun j _ => (intOf j).toNat)
      case atStart => exact ⟨i, dk, rfl, by omega, Nat.le_refl _, HK.out, HO.out, HR.out, rfl⟩
      case round =>
        obtain ⟨j, dj, rfl, haj, hji, hj, hO, hR, hJ⟩ := hrel
        have HO2 := Lib.hid hO
        have HR2 := Lib.hid hR
        have HJ := Lib.hid hJ
        have HJS := Lib.hid hj
        obtain ⟨G, hG⟩ : ∃ G : Nat → Int, ∀ t, G t = dj[t]! := ⟨fun t => dj[t]!, fun _ => rfl⟩
        have c1 := hR.cell j (by omega)
        have f1 := hR.free j
        rw [← hG] at c1
        clear hO hJ
        by_cases hgt : a < j
        · have c2 := hR.cell (j - 1) (by omega)
          have f2 := hR.free (j - 1)
          rw [← hG] at c2
          have HG := Lib.hid hG
          clear hG hR hj
          go_wp2_with fail
          go_quiet ((go_at_call 31; exact Calls.quiet_of_same (less_any _ _ _)))
          have oq : Only [] wr (wr.drewN nq) := (Only.refl [] wr).drewN nq
          generalize hwq : wr.drewN nq = wq at oq ⊢
          have HO3 := Lib.hid (HO2.out.then0 oq)
          have HR3 := Lib.hid (HR2.out.keep oq (by simp))
          have c1 := oq.keepCell c1 (by simp)
          have c2 := oq.keepCell c2 (by simp)
          have f1 := HR3.out.free j
          have f2 := HR3.out.free (j - 1)
          clear oq hwq
          cases hl : ltInt (G j) (G (j - 1))
          · have HL := Lib.hid hl
            clear hl
            go_wp2_with fail
            go_roundw
            case rel =>
              refine ⟨i + 1, dj, by go_num, by omega, by omega, HJS.out, HO3.out, HR3.out, ?_⟩
              rw [← HI.out, insOuter_step (d := dk) hlt, ← HJ.out, insInner_stop (.inr (by rw [← HG.out, ← HG.out]; exact HL.out))]
            case measure => simp [intOf]; omega
          · have HL := Lib.hid hl
            clear hl
            go_wp2_with fail
            go_region
            go_wp2_with fail
            go_roundw
            case rel =>
              refine ⟨j - 1, Sort.swp dj j (j - 1), by go_num, by omega, by omega, by rw [size_swp]; exact HJS.out, ?_, ?_, ?_⟩
              · exact (HO3.out.trans (only_swp wq b j (j - 1) _ _) (by simp)).drew
              · have := HR3.out.swp (i := j) (j := j - 1) (by rw [HJS.out]; omega) (by rw [HJS.out]; omega)
                rw [← HG.out, ← HG.out] at this
                exact this
              · rw [← HJ.out, insInner_go hgt (by rw [← HG.out, ← HG.out]; exact HL.out)]
            case measure => simp [intOf]; omega
        · obtain rfl : j = a := by omega
          clear hG hR hj f1 c1
          go_wp2_with fail
          go_quiet (fail)
          have oq : Only [] wr (wr.drewN nq) := (Only.refl [] wr).drewN nq
          go_wp2_with fail
          go_roundw
          case rel =>
            refine ⟨i + 1, dj, by go_num, by omega, by omega, HJS.out, HO2.out.then0 oq, HR2.out.keep oq (by simp), ?_⟩
            rw [← HI.out, insOuter_step (d := dk) hlt, ← HJ.out, insInner_stop (.inl (Nat.le_refl _))]
          case measure => simp [intOf]; omega
    · go_wp2_with fail
      go_end0
      refine ⟨rfl, HO.out, ?_⟩
      rw [← HI.out, insOuter_stop hlt]
      exact HR.out
end Go.Proofs.Ytenamlckhcfflaa
