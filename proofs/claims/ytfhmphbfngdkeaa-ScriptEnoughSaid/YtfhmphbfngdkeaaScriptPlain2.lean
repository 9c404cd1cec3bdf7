/- Complete lists and rounds in plain Lean: the reference's rounds are the program's. No program in sight. -/
import Derived.Test.YtfhmphbfngdkeaaScriptPlain
namespace Go.Proofs.Ytfhmphbfngdkeaa

/-- Does a list hold a tick and a pick of each of m machines? -/
def tickB (t : List E) : Bool := t.any fun e => decide (e.1 = 1)
def hasB (m : Nat) (t : List E) (j : Nat) : Bool := t.any fun e => decide (machI e m = (j : Int))
def complB (m : Nat) (t : List E) : Bool := tickB t && decide (∀ j, j < m → hasB m t j = true)

/-- The places of a list. -/
def seenF (m : Nat) (t : List E) : Nat → Bool := fun p => t.any fun e => decide (placeI e m = (p : Int))

theorem place_tick {m : Nat} (hm : 1 ≤ m) (e : E) : placeI e m = (m : Int) ↔ e.1 = 1 := by
  have := machI_bd e m
  unfold placeI
  split
  · simp_all
  · constructor
    · intro h; omega
    · intro h; contradiction
theorem place_mach {m j : Nat} (hj : j < m) (e : E) : placeI e m = (j : Int) ↔ machI e m = (j : Int) := by
  unfold placeI
  split
  · rename_i h
    have : machI e m = -1 := by unfold machI; rw [if_neg (by omega)]
    rw [this]
    omega
  · exact Iff.rfl

theorem compl_cnt {m : Nat} (hm : 1 ≤ m) (t : List E) : complB m t = true ↔ cntF (seenF m t) (m + 1) = m + 1 := by
  rw [cntF_all]
  unfold complB
  rw [Bool.and_eq_true, decide_eq_true_eq]
  have h1 : seenF m t m = tickB t := by
    unfold seenF tickB
    congr 1
    funext e
    rw [Bool.eq_iff_iff, decide_eq_true_eq, decide_eq_true_eq]
    exact place_tick hm e
  have h2 : ∀ j, j < m → seenF m t j = hasB m t j := fun j hj => by
    unfold seenF hasB
    congr 1
    funext e
    rw [Bool.eq_iff_iff, decide_eq_true_eq, decide_eq_true_eq]
    exact place_mach hj e
  constructor
  · rintro ⟨ht, hh⟩ i hi
    by_cases e : i = m
    · rw [e, h1]; exact ht
    · rw [h2 i (by omega)]; exact hh i (by omega)
  · intro h
    exact ⟨by rw [← h1]; exact h m (by omega), fun j hj => by rw [← h2 j hj]; exact h j (by omega)⟩

theorem seen_snoc (m : Nat) (t : List E) (e : E) (p : Nat) : seenF m (t ++ [e]) p = (seenF m t p || decide (placeI e m = (p : Int))) := by
  unfold seenF
  rw [List.any_append]
  simp

theorem cntF_le_add (f g : Nat → Bool) (q : Nat) : ∀ k, (∀ p, p < k → p ≠ q → f p = g p) → cntF f k ≤ cntF g k + (if q < k then 1 else 0)
  | 0, _ => by simp [cntF]
  | k + 1, h => by
    have ih := cntF_le_add f g q k (fun p hp hq => h p (by omega) hq)
    rw [cntF_succ, cntF_succ]
    by_cases e : q = k
    · have e2 : cntF f k = cntF g k := cntF_congr (fun i hi => h i (by omega) (by omega))
      rw [e2, if_pos (show q < k + 1 by omega)]
      cases f k <;> cases g k <;> simp <;> omega
    · rw [h k (by omega) (fun h => e h.symm)]
      by_cases hq : q < k
      · rw [if_pos hq] at ih
        rw [if_pos (show q < k + 1 by omega)]
        omega
      · rw [if_neg hq] at ih
        rw [if_neg (show ¬ q < k + 1 by omega)]
        omega

theorem seen_len (m : Nat) : ∀ (t : List E), cntF (seenF m t.reverse) (m + 1) ≤ t.length
  | [] => by
    have : cntF (seenF m []) (m + 1) = 0 := by
      exact (cntF_congr (g := fun _ => false) (fun i _ => rfl)).trans (cntF_none _)
    simpa using this
  | e :: t => by
    have ih := seen_len m t
    rw [List.reverse_cons]
    have := cntF_le_add (seenF m (t.reverse ++ [e])) (seenF m t.reverse) (placeI e m).toNat (m + 1) (fun p hp hq => by
      rw [seen_snoc]
      have : decide (placeI e m = (p : Int)) = false := decide_eq_false (fun h => hq (by rw [h]; simp))
      rw [this]; simp)
    simp only [List.length_cons]
    split at this <;> omega

theorem compl_len {m : Nat} (hm : 1 ≤ m) (t : List E) (h : complB m t = true) : m < t.length := by
  have h1 := (compl_cnt hm t).1 h
  have h2 := seen_len m t.reverse
  rw [List.reverse_reverse, List.length_reverse] at h2
  omega

/-- Where the program's rounds stand when the reference's stand at 'from'. -/
def RR (m : Nat) (l : List E) (k fr n : Nat) : Prop :=
  fr ≤ k ∧ ∃ S, (l.take k).foldl (rstep m) (fun _ => false, 0) = (S, n) ∧ (∀ p, p < m + 1 → S p = seenF m ((l.take k).drop fr) p) ∧ cntF S (m + 1) ≤ m

theorem rr_start (m : Nat) (l : List E) : RR m l 0 0 0 :=
  ⟨Nat.le_refl _, fun _ => false, by simp, fun p _ => by simp [seenF], by rw [cntF_none]; omega⟩

theorem part_snoc {l : List E} {k fr : Nat} (hk : k < l.length) (hf : fr ≤ k) : (l.take (k + 1)).drop fr = (l.take k).drop fr ++ [l.getD k (0, 0)] := by
  rw [List.take_succ_eq_append_getElem hk, List.drop_append_of_le_length (by rw [List.length_take]; omega)]
  simp [List.getD, List.getElem?_eq_getElem hk]

theorem rr_step {m : Nat} (hm : 1 ≤ m) {l : List E} {k fr n : Nat} (h : RR m l k fr n) (hk : k < l.length) :
    (complB m ((l.take (k + 1)).drop fr) = true → RR m l (k + 1) (k + 1) (n + 1)) ∧ (complB m ((l.take (k + 1)).drop fr) = false → RR m l (k + 1) fr n) := by
  obtain ⟨hf, S, h1, h2, h3⟩ := h
  have hfold : (l.take (k + 1)).foldl (rstep m) (fun _ => false, 0) = rstep m (S, n) (l.getD k (0, 0)) := by
    rw [List.take_succ_eq_append_getElem hk, List.foldl_append, h1]
    simp [List.getD, List.getElem?_eq_getElem hk]
  rw [part_snoc hk hf]
  obtain ⟨e, he⟩ : ∃ e, e = l.getD k (0, 0) := ⟨_, rfl⟩
  rw [← he] at hfold ⊢
  have hpb := placeI_bd e m (by omega)
  have hcc := compl_cnt hm ((l.take k).drop fr ++ [e])
  by_cases hp : placeI e m < 0
  · have hs : ∀ p, p < m + 1 → S p = seenF m ((l.take k).drop fr ++ [e]) p := fun p hp' => by
      rw [seen_snoc, h2 p hp', decide_eq_false (by omega)]; simp
    have hcnt : cntF (seenF m ((l.take k).drop fr ++ [e])) (m + 1) = cntF S (m + 1) := (cntF_congr hs).symm
    constructor
    · intro hc
      have := hcc.1 hc
      omega
    · intro _
      refine ⟨by omega, S, ?_, fun p hp' => ?_, h3⟩
      · rw [hfold]; unfold rstep; rw [if_pos hp]
      · rw [part_snoc hk hf, ← he]; exact hs p hp'
  · obtain ⟨q, hq⟩ := Int.eq_ofNat_of_zero_le (show 0 ≤ placeI e m by omega)
    have hqm : q < m + 1 := by omega
    have hs : ∀ p, p < m + 1 → addF S q p = seenF m ((l.take k).drop fr ++ [e]) p := fun p hp' => by
      rw [seen_snoc, ← h2 p hp']
      unfold addF
      rw [Bool.or_comm]
      congr 1
      rw [Bool.eq_iff_iff, decide_eq_true_eq, beq_iff_eq]
      omega
    have hcnt : cntF (seenF m ((l.take k).drop fr ++ [e])) (m + 1) = cntF (addF S q) (m + 1) := (cntF_congr hs).symm
    have hr : rstep m (S, n) e = if cntF (addF S q) (m + 1) ≤ m then (addF S q, n) else (fun _ => false, n + 1) := by
      unfold rstep
      rw [if_neg hp, show (placeI e m).toNat = q by omega]
    have hle := cntF_le (addF S q) (m + 1)
    constructor
    · intro hc
      have h5 := hcc.1 hc
      refine ⟨Nat.le_refl _, fun _ => false, ?_, fun p _ => ?_, by rw [cntF_none]; omega⟩
      · rw [hfold, hr, if_neg (by omega)]
      · rw [List.drop_eq_nil_of_le (by rw [List.length_take]; omega)]; rfl
    · intro hc
      have h5 : cntF (addF S q) (m + 1) ≤ m := by
        rcases Nat.lt_or_ge m (cntF (addF S q) (m + 1)) with h6 | h6
        · have := hcc.2 (by omega)
          rw [hc] at this; cases this
        · exact h6
      refine ⟨by omega, addF S q, ?_, fun p hp' => ?_, h5⟩
      · rw [hfold, hr, if_pos h5]
      · rw [part_snoc hk hf, ← he]; exact hs p hp'

theorem rr_end {m : Nat} {l : List E} {fr n : Nat} (h : RR m l l.length fr n) : rounds m l = n := by
  obtain ⟨_, S, h1, _⟩ := h
  rw [List.take_length] at h1
  unfold rounds
  rw [h1]
end Go.Proofs.Ytfhmphbfngdkeaa
