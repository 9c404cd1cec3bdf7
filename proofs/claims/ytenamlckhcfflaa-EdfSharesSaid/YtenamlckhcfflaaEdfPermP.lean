/- Pushes and pops on heaps keep the keys; popping a heap gives them in ascending order. No condition. -/
import Derived.Test.YtenamlckhcfflaaEdfSortP
import Derived.Test.YtenamlckhcfflaaEdfHeap
import Derived.Sort.Lot0
namespace Go.Proofs.Ytenamlckhcfflaa
open Go.Sort

theorem swap_perm {l : List Int} {i j : Nat} (hi : i < l.length) (hj : j < l.length) : ((l.set i (l.getD j 0)).set j (l.getD i 0)).Perm l := by
  have := perm_set_set l i j hi hj
  rwa [show l.getD j 0 = l[j] from by simp [List.getD, hj], show l.getD i 0 = l[i] from by simp [List.getD, hi]]

theorem upR_perm (k : Int) : ∀ (f j : Nat) (l : List Int), j < l.length → l.getD j 0 = k → (upR k f j l).Perm l
  | 0, j, l, _, _ => List.Perm.refl _
  | f + 1, j, l, hj, hk => by
    unfold upR
    split
    · rename_i h
      have hp : (j - 1) / 2 < l.length := by omega
      have hsw := swap_perm hj hp
      rw [hk] at hsw
      refine (upR_perm k f _ _ (by simp; omega) ?_).trans hsw
      rw [getD_set_eq (by simp; omega)]
    · exact List.Perm.refl _

theorem push_perm (h : List Int) (k : Int) : (pushL h k).Perm (k :: h) := by
  rw [← upR_start]
  refine (upR_perm k _ _ _ (by simp) (by simp [List.getD])).trans ?_
  exact List.perm_append_singleton k h

theorem downR_perm (y : Int) : ∀ (f i : Nat) (l : List Int), i < l.length → l.getD i 0 = y → (downR y f i l).Perm l
  | 0, i, l, _, _ => List.Perm.refl _
  | f + 1, i, l, hi, hy => by
    unfold downR
    split
    · rename_i h
      have hc := lesserL_lt h.1
      have hsw := swap_perm hi hc
      rw [hy] at hsw
      refine (downR_perm y f _ _ (by simp; omega) ?_).trans hsw
      rw [getD_set_eq (by simp; omega)]
    · exact List.Perm.refl _

theorem pop_perm (h : List Int) (hp : 0 < h.length) : (h.getD 0 0 :: popL h).Perm h := by
  match h, hp with
  | [x], _ => simp [popL]
  | x :: z :: r, _ =>
    obtain ⟨m, y, hm⟩ : ∃ m y, z :: r = m ++ [y] := ⟨(z :: r).dropLast, (z :: r).getLast (by simp), (List.dropLast_concat_getLast (by simp)).symm⟩
    rw [hm]
    have hl : (x :: (m ++ [y])).length = m.length + 2 := by simp
    have e1 : (x :: (m ++ [y])).getD ((x :: (m ++ [y])).length - 1) 0 = y := by
      rw [hl]
      simp [List.getD]
    have e2 : (x :: (m ++ [y])).take ((x :: (m ++ [y])).length - 1) = x :: m := by
      rw [hl]
      simp
    have e3 : popL (x :: (m ++ [y])) = downR y (m.length + 2) 0 (y :: m) := by
      unfold popL
      rw [if_neg (by rw [hl]; omega), e1, e2, hl, ← downR_eq]
      rfl
    rw [e3]
    have hd := downR_perm y (m.length + 2) 0 (y :: m) (by simp) rfl
    refine (hd.cons _).trans ?_
    show (x :: y :: m).Perm (x :: (m ++ [y]))
    exact (List.perm_append_singleton y m).symm.cons x

/-- Behind some pops: what came out, what is left. -/
structure Popped (xs out h : List Int) : Prop where
  p : (out ++ h).Perm xs
  s : out.Pairwise (· ≤ ·)
  le : ∀ x ∈ out, ∀ y ∈ h, x ≤ y
  hp : Heap h

theorem Popped.next {xs out h : List Int} (H : Popped xs out h) (h0 : 0 < h.length) : Popped xs (out ++ [h.getD 0 0]) (popL h) := by
  have hpm := pop_perm h h0
  have hmem : h.getD 0 0 ∈ h := hpm.mem_iff.1 (by simp)
  refine ⟨?_, ?_, fun x hx y hy => ?_, pop_heap h H.hp⟩
  · refine List.Perm.trans ?_ H.p
    rw [List.append_assoc]
    exact hpm.append_left out
  · rw [List.pairwise_append]
    exact ⟨H.s, by simp, fun x hx y hy => by simp at hy; rw [hy]; exact H.le x hx _ hmem⟩
  · obtain ⟨j, hj, rfl⟩ := List.mem_iff_getElem.1 hy
    have g := pop_ge h H.hp j hj
    rw [show (popL h).getD j 0 = (popL h)[j] from by simp [List.getD, hj]] at g
    rcases List.mem_append.1 hx with e | e
    · exact H.le x e _ (hpm.mem_iff.1 (List.mem_cons_of_mem _ hy))
    · simp at e
      rw [e]; exact g

theorem Popped.start {xs h : List Int} (hp : h.Perm xs) (hh : Heap h) : Popped xs [] h := ⟨hp, List.Pairwise.nil, fun x hx => by simp at hx, hh⟩
theorem Popped.done {xs out : List Int} (H : Popped xs out []) : out = sortR xs := eq_sortR (by have := H.p; simpa using this) H.s
end Go.Proofs.Ytenamlckhcfflaa
