/- Complete lists one behind the other, and fair lists, have enough rounds. No program in sight. -/
import Derived.Test.YtfhmphbfngdkeaaScriptFairP
import Derived.Test.YtfhmphbfngdkeaaScriptRounds
namespace Go.Proofs.Ytfhmphbfngdkeaa

/-- The places that a state has seen are not yet all. -/
def GoodS (m : Nat) (s : (Nat → Bool) × Nat) : Prop := cntF s.1 (m + 1) ≤ m

theorem rstep_good {m : Nat} {s : (Nat → Bool) × Nat} (h : GoodS m s) (e : E) : GoodS m (rstep m s e) := by
  unfold rstep
  by_cases h1 : placeI e m < 0
  · rw [if_pos h1]; exact h
  · rw [if_neg h1]
    by_cases h2 : cntF (addF s.1 (placeI e m).toNat) (m + 1) ≤ m
    · rw [if_pos h2]; exact h2
    · rw [if_neg h2]
      unfold GoodS
      rw [cntF_none]; omega

theorem fold_good {m : Nat} : ∀ (T : List E) {s : (Nat → Bool) × Nat}, GoodS m s → GoodS m (T.foldl (rstep m) s)
  | [], _, h => h
  | e :: T, _, h => fold_good T (rstep_good h e)

theorem rstep_le {m : Nat} (s : (Nat → Bool) × Nat) (e : E) : s.2 ≤ (rstep m s e).2 := by
  unfold rstep
  by_cases h1 : placeI e m < 0
  · rw [if_pos h1]; omega
  · rw [if_neg h1]
    by_cases h2 : cntF (addF s.1 (placeI e m).toNat) (m + 1) ≤ m
    · rw [if_pos h2]; simp
    · rw [if_neg h2]; simp
theorem fold_le {m : Nat} : ∀ (T : List E) (s : (Nat → Bool) × Nat), s.2 ≤ (T.foldl (rstep m) s).2
  | [], _ => Nat.le_refl _
  | e :: T, s => Nat.le_trans (rstep_le s e) (fold_le T _)

/-- Where no round ends, what was seen stays seen. -/
theorem fold_same {m : Nat} : ∀ (T : List E) (s : (Nat → Bool) × Nat), (T.foldl (rstep m) s).2 = s.2 → ∀ p, p < m + 1 → (s.1 p = true ∨ seenF m T p = true) → (T.foldl (rstep m) s).1 p = true
  | [], s, _, p, _, h => by rcases h with h | h; exact h; simp [seenF] at h
  | e :: T, s, h, p, hp, hs => by
    rw [List.foldl_cons] at h ⊢
    have h1 := rstep_le (m := m) s e
    have h2 := fold_le (m := m) T (rstep m s e)
    have h3 : (rstep m s e).2 = s.2 := by omega
    refine fold_same T (rstep m s e) (by omega) p hp ?_
    have h4 : ((rstep m s e).1 p = true) ∨ ¬ (s.1 p = true ∨ placeI e m = (p : Int)) := by
      unfold rstep at h3 ⊢
      by_cases g1 : placeI e m < 0
      · rw [if_pos g1]
        by_cases g : s.1 p = true
        · exact .inl g
        · exact .inr (fun h => by rcases h with h | h; exact g h; omega)
      · rw [if_neg g1] at h3 ⊢
        by_cases g2 : cntF (addF s.1 (placeI e m).toNat) (m + 1) ≤ m
        · rw [if_pos g2]
          simp only [addF]
          by_cases g : s.1 p = true
          · exact .inl (by rw [g]; simp)
          · by_cases g4 : placeI e m = (p : Int)
            · exact .inl (by rw [g4]; simp)
            · exact .inr (fun h => by rcases h with h | h; exact g h; exact g4 h)
        · rw [if_neg g2] at h3
          simp at h3
    have h5 : seenF m (e :: T) p = (decide (placeI e m = (p : Int)) || seenF m T p) := by simp [seenF]
    rw [h5, Bool.or_eq_true, decide_eq_true_eq] at hs
    rcases h4 with h4 | h4
    · exact .inl h4
    · rcases hs with hs | hs | hs
      · exact absurd (.inl hs) h4
      · exact absurd (.inr hs) h4
      · exact .inr hs

theorem fold_compl {m : Nat} (hm : 1 ≤ m) (T : List E) {s : (Nat → Bool) × Nat} (h : GoodS m s) (hc : complB m T = true) : s.2 + 1 ≤ (T.foldl (rstep m) s).2 := by
  have h1 := fold_le (m := m) T s
  rcases Nat.lt_or_ge s.2 (T.foldl (rstep m) s).2 with h2 | h2
  · exact h2
  · exfalso
    have h3 := fold_same (m := m) T s (by omega)
    have h4 := (cntF_all _ _).1 ((compl_cnt hm T).1 hc)
    have h5 := (cntF_all (T.foldl (rstep m) s).1 (m + 1)).2 (fun p hp => h3 p hp (.inr (h4 p hp)))
    have h6 := fold_good T h
    unfold GoodS at h6
    omega

theorem good_start (m : Nat) : GoodS m (fun _ => false, 0) := by unfold GoodS; rw [cntF_none]; omega
theorem rounds_cat {m : Nat} (hm : 1 ≤ m) (X T : List E) (hc : complB m T = true) : rounds m X + 1 ≤ rounds m (X ++ T) := by
  unfold rounds
  rw [List.foldl_append]
  exact fold_compl hm T (fold_good X (good_start m)) hc
theorem rounds_more (m : Nat) (X T : List E) : rounds m X ≤ rounds m (X ++ T) := by
  unfold rounds
  rw [List.foldl_append]
  exact fold_le T _

theorem fair_rounds {m k : Nat} (hm : 1 ≤ m) {l : List E} (hf : fairB m k l = true) : ∀ q, q * k ≤ l.length → 1 ≤ k → q ≤ rounds m (l.take (q * k))
  | 0, _, _ => Nat.zero_le _
  | q + 1, h, hk => by
    have e : (q + 1) * k = q * k + k := Nat.succ_mul q k
    rw [e] at h ⊢
    have ih := fair_rounds hm hf q (by omega) hk
    have hw := (of_decide_eq_true hf) (q * k) (by omega)
    have := rounds_cat hm (l.take (q * k)) _ hw
    have e2 : l.take (q * k) ++ (l.take (q * k + k)).drop (q * k) = l.take (q * k + k) := by
      have h1 : l.take (q * k) = (l.take (q * k + k)).take (q * k) := by rw [List.take_take]; congr 1; omega
      rw [h1, List.take_append_drop]
    rw [e2] at this
    omega

theorem fair_enough {m k : Nat} (hm : 1 ≤ m) (hk : 1 ≤ k) {l : List E} (hf : fairB m k l = true) : l.length / k ≤ rounds m l := by
  have h1 := fair_rounds hm hf (l.length / k) (Nat.div_mul_le_self _ _) hk
  have h2 := rounds_more m (l.take (l.length / k * k)) (l.drop (l.length / k * k))
  rw [List.take_append_drop] at h2
  omega

theorem roundsI_nat {m : Nat} (hm : 1 ≤ m) (l : List E) : roundsI m l = rounds m l := by
  unfold roundsI
  rw [if_neg (by omega), Int.toNat_natCast]
theorem fairI_nat {m k : Nat} (hm : 1 ≤ m) (hk : 1 ≤ k) (l : List E) : fairI m k l = fairB m k l := by
  unfold fairI
  rw [decide_eq_true (by omega), decide_eq_true (by omega)]; rfl
end Go.Proofs.Ytfhmphbfngdkeaa
