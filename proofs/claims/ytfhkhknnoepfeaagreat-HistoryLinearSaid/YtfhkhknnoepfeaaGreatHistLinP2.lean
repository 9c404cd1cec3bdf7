/- Linearizability, plain: the program's list of places of pushes against the list of values. -/
import Derived.Test.YtfhkhknnoepfeaaGreatMgA
namespace Go.Proofs.YtfhkhknnoepfeaaGreat

/-- The places after operation i, as the program keeps them. -/
def plAct (f : Nat → HOp) (i : Nat) (L : List Nat) (cap : Int) : Option (List Nat) :=
  if (f i).kind = 0 ∧ (f i).code = 0 then if (L.length : Int) < cap then some (L ++ [i]) else none
  else if (f i).kind = 0 then if cap ≤ (L.length : Int) then some L else none
  else if (f i).code = 2 then if L = [] then some L else none
  else if (f i).code = 4 then some L
  else if L = [] then none
  else if (f i).kind = 2 then if (f (L.headD 0)).value = (f i).value then some L.tail else none
  else if (f (L.getLastD 0)).value = (f i).value then some L.dropLast else none

/-- The values at places. -/
def vals (f : Nat → HOp) (L : List Nat) : List Int := L.map fun p => (f p).value

theorem vals_nil {f : Nat → HOp} {L : List Nat} : vals f L = [] ↔ L = [] := by simp [vals]
theorem vals_head {f : Nat → HOp} : ∀ {L : List Nat}, ¬ L = [] → (vals f L).headD 0 = (f (L.headD 0)).value
  | [], h => absurd rfl h
  | _ :: _, _ => rfl
theorem vals_last {f : Nat → HOp} {L : List Nat} (h : ¬ L = []) : (vals f L).getLastD 0 = (f (L.getLastD 0)).value := by
  obtain ⟨y, r, rfl⟩ : ∃ y r, L = r ++ [y] := ⟨L.getLast h, L.dropLast, (List.dropLast_concat_getLast h).symm⟩
  simp [vals]

theorem plAct_vals {f : Nat → HOp} {i : Nat} {L : List Nat} {cap : Int} (hf : (f i).formed = true) : (plAct f i L cap).map (vals f) = (f i).act (vals f L) cap := by
  simp only [HOp.formed, Bool.and_eq_true, Bool.or_eq_true, decide_eq_true_eq] at hf
  obtain ⟨_, hf⟩ := hf
  have hlen : (vals f L).length = L.length := by simp [vals]
  unfold plAct HOp.act
  rw [hlen]
  by_cases c0 : (f i).code = 0
  · have hk : (f i).kind = 0 := by omega
    rw [if_pos ⟨hk, c0⟩, if_pos c0]
    split
    · simp [vals]
    · rfl
  · rw [if_neg (show ¬ ((f i).kind = 0 ∧ (f i).code = 0) by omega), if_neg c0]
    by_cases c3 : (f i).code = 3
    · rw [if_pos (show (f i).kind = 0 by omega), if_pos c3]
      split <;> rfl
    · rw [if_neg (show ¬ (f i).kind = 0 by omega), if_neg c3]
      by_cases c2 : (f i).code = 2
      · rw [if_pos c2, if_pos c2]
        by_cases hl : L = []
        · rw [if_pos hl, if_pos (vals_nil.2 hl)]; rfl
        · rw [if_neg hl, if_neg (fun e => hl (vals_nil.1 e))]; rfl
      · rw [if_neg c2, if_neg c2]
        by_cases c4 : (f i).code = 4
        · rw [if_pos c4, if_pos c4]; rfl
        · rw [if_neg c4, if_neg c4]
          by_cases hl : L = []
          · rw [if_pos hl, if_pos (vals_nil.2 hl)]; rfl
          · rw [if_neg hl, if_neg (fun e => hl (vals_nil.1 e)), vals_head hl, vals_last hl]
            by_cases k2 : (f i).kind = 2
            · rw [if_pos k2, if_neg (show ¬ (f i).kind = 1 by omega)]
              split
              · simp [vals]
              · rfl
            · rw [if_neg k2, if_pos (show (f i).kind = 1 by omega)]
              split
              · simp [vals]
              · rfl

/-- Is there an order from a list of places? -/
theorem ordr_places {f : Nat → HOp} {n : Nat} {cap : Int} (hf : ∀ i, i < n → (f i).formed = true) {k : Nat} {used : Nat → Bool} {L : List Nat} :
    ordr f n cap (k + 1) used (vals f L) = true ↔ ∃ i, i < n ∧ used i = false ∧ firstU f n used i = true ∧ ∃ L', plAct f i L cap = some L' ∧ ordr f n cap k (setU used i) (vals f L') = true := by
  rw [ordr_succ]
  constructor
  · rintro ⟨i, hi, h1, h2, l', h3, h4⟩
    rw [← plAct_vals (hf i hi), Option.map_eq_some_iff] at h3
    obtain ⟨L', h5, rfl⟩ := h3
    exact ⟨i, hi, h1, h2, L', h5, h4⟩
  · rintro ⟨i, hi, h1, h2, L', h5, h4⟩
    exact ⟨i, hi, h1, h2, vals f L', by rw [← plAct_vals (hf i hi), h5]; rfl, h4⟩

/-- The operations that are left. -/
def leftU (n : Nat) (used : Nat → Bool) : Nat := (List.range n).countP fun j => !used j
theorem leftU_set {n : Nat} {used : Nat → Bool} {i : Nat} (hi : i < n) (h : used i = false) : leftU n used = leftU n (setU used i) + 1 := by
  have := countP_set (fun _ => true) used i h n hi
  simpa [leftU] using this

/-- The set of a word. -/
def bitsU (d : Nat) : Nat → Bool := fun j => d.testBit j
theorem bitsU_set (d i : Nat) : bitsU (d ||| 1 <<< i) = setU (bitsU d) i := by
  funext j
  have h1 : Nat.testBit 1 (j - i) = decide (j - i = 0) := by
    cases h : j - i with
    | zero => rfl
    | succ m => simp [Nat.testBit_succ]
  show (d ||| 1 <<< i).testBit j = (d.testBit j || decide (j = i))
  rw [Nat.testBit_or, Nat.testBit_shiftLeft, h1]
  congr 1
  by_cases h : j = i
  · subst h; simp
  · simp only [h, decide_false]
    by_cases g : i ≤ j
    · have : ¬ j - i = 0 := by omega
      simp [this]
    · simp [g]

/-- The word of the operations among the first n that end before x. -/
def earlyN (f : Nat → HOp) (x : Int) : Nat → Nat
  | 0 => 0
  | n + 1 => if (f n).to < x then earlyN f x n ||| 1 <<< n else earlyN f x n
theorem one_bit (n j : Nat) : (1 <<< n).testBit j = decide (j = n) := by
  have := congrFun (bitsU_set 0 n) j
  simpa [bitsU, setU] using this
theorem earlyN_bit (f : Nat → HOp) (x : Int) (j : Nat) : ∀ n, (earlyN f x n).testBit j = (decide (j < n) && decide ((f j).to < x))
  | 0 => by simp [earlyN]
  | n + 1 => by
    have ih := earlyN_bit f x j n
    unfold earlyN
    by_cases h : (f n).to < x
    · rw [if_pos h, Nat.testBit_or, ih, one_bit]
      by_cases e : j = n
      · subst e; simp [h]
      · have : (j < n + 1) = (j < n) := by rw [eq_iff_iff]; omega
        simp [e, this]
    · rw [if_neg h, ih]
      by_cases e : j = n
      · subst e; simp [h]
      · have : (j < n + 1) = (j < n) := by rw [eq_iff_iff]; omega
        simp [this]
theorem earlyN_lt (f : Nat → HOp) (x : Int) (n : Nat) : earlyN f x n < 2 ^ n := by
  refine Nat.lt_pow_two_of_testBit _ fun j hj => ?_
  rw [earlyN_bit]
  have : ¬ j < n := by omega
  simp [this]
theorem first_bits {f : Nat → HOp} {n d i : Nat} : firstU f n (bitsU d) i = true ↔ ∀ j, (earlyN f (f i).frm n).testBit j = true → d.testBit j = true := by
  unfold firstU
  rw [List.all_eq_true]
  constructor
  · intro h j hj
    rw [earlyN_bit, Bool.and_eq_true, decide_eq_true_eq, decide_eq_true_eq] at hj
    have := h j (List.mem_range.2 hj.1)
    rw [Bool.or_eq_true, decide_eq_true_eq] at this
    rcases this with g | g
    · exact g
    · omega
  · intro h j hj
    rw [Bool.or_eq_true, decide_eq_true_eq]
    by_cases g : (f i).frm ≤ (f j).to
    · exact .inr g
    · exact .inl (h j (by rw [earlyN_bit, Bool.and_eq_true, decide_eq_true_eq, decide_eq_true_eq]; exact ⟨List.mem_range.1 hj, by omega⟩))
end Go.Proofs.YtfhkhknnoepfeaaGreat
