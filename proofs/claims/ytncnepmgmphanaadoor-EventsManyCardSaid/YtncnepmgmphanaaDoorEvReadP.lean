/- What a line of an event reads as: plain. No condition. -/
import Derived.Test.YtncnepmgmphanaaDoorEvFormat
namespace Go.Proofs.YtncnepmgmphanaaDoor
open Go.RowKit
set_option linter.unusedVariables false

def blank : ByteArray := ⟨#[32]⟩
/-- The words of a line. -/
def wordsOf (s : ByteArray) : List ByteArray := Lib.splitB blank 0 (Lib.countB s blank) s
theorem wordsOf_pos (s : ByteArray) : 0 < (wordsOf s).length := by
  unfold wordsOf
  rw [Lib.splitB_all blank (by decide) 0 _ s rfl]; omega

def wordB (k : Nat) : ByteArray := ⟨(formAt k).word.toArray⟩
/-- The number of the form with a word: the first from k on. -/
def formOf (w0 : ByteArray) : Nat → Option Nat
  | 0 => none
  | n + 1 => if wordB (19 - (n + 1)) = w0 then some (19 - (n + 1)) else formOf w0 n

theorem formOf_none {w0 : ByteArray} : ∀ n, n ≤ 19 → (∀ j, 19 - n ≤ j → j < 19 → wordB j ≠ w0) → formOf w0 n = none := by
  intro n
  induction n with
  | zero => intro _ _; rfl
  | succ n ih =>
    intro hn h
    unfold formOf
    rw [if_neg (h _ (Nat.le_refl _) (by omega))]
    exact ih (by omega) fun j h1 h2 => h j (by omega) h2
theorem formOf_some {w0 : ByteArray} {k : Nat} (hk : k < 19) (he : wordB k = w0) : ∀ n, n ≤ 19 → 19 - n ≤ k → (∀ j, 19 - n ≤ j → j < k → wordB j ≠ w0) → formOf w0 n = some k := by
  intro n
  induction n with
  | zero => intro _ h1; omega
  | succ n ih =>
    intro hn h1 h2
    unfold formOf
    by_cases e : 19 - (n + 1) = k
    · rw [e, if_pos he]
    · rw [if_neg (h2 _ (Nat.le_refl _) (by omega))]
      exact ih (by omega) (by omega) fun j h3 h4 => h2 j (by omega) h4

/-- The numbers of the first i fields, and what is left of the words. -/
def fillTo (f : EForm) (ws : List ByteArray) : Nat → Option (List Int × List ByteArray)
  | 0 => some ([], ws)
  | i + 1 => match fillTo f ws i with
    | none => none
    | some (vs, rest) => if usAt f i then (match rest with
      | [] => none
      | r :: rest' => match atoiN r.data.toList with
        | none => none
        | some n => if (⟨(Lib.itoa n).toArray⟩ : ByteArray) = r then some (vs ++ [n], rest') else none) else some (vs ++ [0], rest)

theorem fillTo_le {f : EForm} {ws : List ByteArray} : ∀ i j, i ≤ j → fillTo f ws i = none → fillTo f ws j = none := by
  intro i j h hn
  induction j with
  | zero => obtain rfl : i = 0 := by omega
            exact hn
  | succ j ih =>
    by_cases e : i = j + 1
    · subst e; exact hn
    · unfold fillTo
      rw [ih (by omega)]
theorem fillTo_len {f : EForm} {ws : List ByteArray} : ∀ i vs rest, fillTo f ws i = some (vs, rest) → vs.length = i ∧ ∃ k, k ≤ ws.length ∧ rest = ws.drop k := by
  intro i
  induction i with
  | zero => intro vs rest h; simp [fillTo] at h; obtain ⟨rfl, rfl⟩ := h; exact ⟨rfl, 0, by omega, rfl⟩
  | succ i ih =>
    intro vs rest h
    unfold fillTo at h
    cases hf : fillTo f ws i with
    | none => rw [hf] at h; cases h
    | some p =>
      obtain ⟨v0, r0⟩ := p
      obtain ⟨h1, k, h2, h3⟩ := ih v0 r0 hf
      rw [hf] at h
      simp only at h
      split at h
      · cases r0 with
        | nil => cases h
        | cons r rest' =>
          simp only at h
          split at h
          · cases h
          · split at h
            · simp at h; obtain ⟨rfl, rfl⟩ := h
              refine ⟨by simp [h1], k + 1, ?_, ?_⟩
              · have := congrArg List.length h3; simp at this; omega
              · rw [← List.drop_drop, ← h3]; rfl
            · cases h
      · simp at h; obtain ⟨rfl, rfl⟩ := h
        exact ⟨by simp [h1], k, h2, h3⟩

/-- The numbers so far, and zeros. -/
def arr4 (vs : List Int) : Array Value := #[.int .i64 (vs.getD 0 0), .int .i64 (vs.getD 1 0), .int .i64 (vs.getD 2 0), .int .i64 (vs.getD 3 0)]
theorem getD_app (vs : List Int) (n : Int) (j : Nat) : (vs ++ [n]).getD j 0 = if j = vs.length then n else vs.getD j 0 := by
  simp only [List.getD_eq_getElem?_getD]
  by_cases h : j < vs.length
  · rw [List.getElem?_append_left h, if_neg (by omega)]
  · by_cases e : j = vs.length
    · subst e; simp
    · rw [if_neg e, List.getElem?_eq_none (by simp; omega), List.getElem?_eq_none (by omega)]
theorem arr4_zero (vs : List Int) : arr4 (vs ++ [0]) = arr4 vs := by
  have h : ∀ j, (vs ++ [(0 : Int)]).getD j 0 = vs.getD j 0 := fun j => by
    rw [getD_app]
    split
    · rename_i e; subst e; simp [List.getD_eq_getElem?_getD]
    · rfl
  simp only [arr4, h]
theorem arr4_set (vs : List Int) (n : Int) (h : vs.length < 4) : (arr4 vs).setIfInBounds vs.length (.int .i64 n) = arr4 (vs ++ [n]) := by
  rcases (show vs.length = 0 ∨ vs.length = 1 ∨ vs.length = 2 ∨ vs.length = 3 from by omega) with e | e | e | e <;> simp only [arr4, getD_app, e] <;> rfl
theorem arr4_at (vs : List Int) (j : Nat) (h : j < 4) : (arr4 vs)[j]? = some (.int .i64 (vs.getD j 0)) := by
  rcases (show j = 0 ∨ j = 1 ∨ j = 2 ∨ j = 3 from by omega) with rfl | rfl | rfl | rfl <;> rfl

/-- The next word. -/
theorem rest_head {f : EForm} {ws : List ByteArray} {i : Nat} {vs : List Int} {r : ByteArray} {rest : List ByteArray} (h : fillTo f ws.tail i = some (vs, r :: rest)) {o : Nat} (ho : o + (rest.length + 1) = ws.length) : ws.getD o ByteArray.empty = r ∧ r ∈ ws := by
  obtain ⟨-, k, hk, he⟩ := fillTo_len i vs _ h
  rw [List.drop_tail] at he
  have hl := congrArg List.length he
  simp at hl
  have hko : o = k + 1 := by simp at hk; omega
  subst hko
  have hg : ws[k + 1]? = some r := by
    have h2 := congrArg (fun l : List ByteArray => l[0]?) he
    simp at h2
    exact h2.symm
  exact ⟨by rw [List.getD_eq_getElem?_getD, hg]; rfl, List.mem_of_getElem? hg⟩

theorem splitB_size (sep : ByteArray) (n : Nat) : ∀ s, ∀ r ∈ Lib.splitB sep 0 n s, r.size ≤ s.size := by
  induction n with
  | zero => intro s r hr; simp [Lib.splitB] at hr; subst hr; exact Nat.le_refl _
  | succ n ih =>
    intro s r hr
    unfold Lib.splitB at hr
    split at hr
    · simp at hr; subst hr; exact Nat.le_refl _
    · rcases List.mem_cons.1 hr with rfl | h2
      · rw [ByteArray.size_extract]; omega
      · have := ih _ r h2
        rw [ByteArray.size_extract] at this; omega
theorem wordsOf_size {s r : ByteArray} (h : r ∈ wordsOf s) : r.size ≤ s.size := splitB_size _ _ _ _ h

theorem atoiN_bd {l : List UInt8} {n : Int} (h : atoiN l = some n) : -9223372036854775808 ≤ n ∧ n ≤ 9223372036854775807 := by
  unfold atoiN Lib.atoiAll at h
  split at h
  · rename_i v hv
    cases l with
    | nil => cases hv
    | cons c r =>
      simp only at hv
      split at hv
      · cases hv
      · cases hv
      · rename_i u hu
        split at hv
        · cases hv
        · split at hv
          · cases hv
          · rename_i h1 h2
            cases h
            injection hv with hv
            subst hv
            split
            · rename_i hn
              have : ¬ 9223372036854775808 < u := fun hh => h2 ⟨hn, hh⟩
              omega
            · rename_i hn
              have : ¬ 9223372036854775808 ≤ u := fun hh => h1 ⟨hn, hh⟩
              omega
  · cases h

def evOf (k : Nat) (vs : List Int) : Ev := ⟨(k : Int) + 1, vs.getD 0 0, vs.getD 1 0, vs.getD 2 0, vs.getD 3 0⟩
/-- The event of a line. -/
def readB (s : ByteArray) : Option Ev := match formOf ((wordsOf s).headD ByteArray.empty) 19 with
  | none => none
  | some k => match fillTo (formAt k) (wordsOf s).tail 4 with
    | none => none
    | some (vs, rest) => if rest = [] ∧ validB (evOf k vs) = true then some (evOf k vs) else none
end Go.Proofs.YtncnepmgmphanaaDoor
