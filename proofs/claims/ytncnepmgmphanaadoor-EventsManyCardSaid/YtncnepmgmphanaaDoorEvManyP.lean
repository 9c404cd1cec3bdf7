/- Many lines of one event: their text, and what it is parsed as. Plain; no condition. -/
import Derived.Test.YtncnepmgmphanaaDoorEvAwake
namespace Go.Proofs.YtncnepmgmphanaaDoor
open Go.RowKit
set_option linter.unusedVariables false

def parkE : Ev := ⟨16, 0, 0, 0, 0⟩
def parkL : List UInt8 := [112, 97, 114, 107, 32, 48]
def parkN : List UInt8 := [112, 97, 114, 107, 32, 48, 10]
def parks : Nat → List UInt8
  | 0 => []
  | n + 1 => parkN ++ parks n
theorem parks_len (n : Nat) : (parks n).length = 7 * n := by
  induction n with
  | zero => rfl
  | succ n ih => simp only [parks, List.length_append, ih]; simp [parkN]; omega
theorem parks_snoc (n : Nat) : parks (n + 1) = parks n ++ parkN := by
  induction n with
  | zero => rfl
  | succ n ih => rw [parks, ih, ← List.append_assoc, ← parks]; rw [ih]
theorem cut_parks (n : Nat) : Lib.cut (parks (n + 1)) [10] = (parkL, parks n, true) := by
  have hi : Lib.index (parks (n + 1)) [10] = 6 := by
    have h0 : ∀ t : List UInt8, Lib.index (10 :: t) [10] = 0 := fun t => by unfold Lib.index; simp
    have hs : ∀ (c : UInt8) (t : List UInt8) (k : Int), c ≠ 10 → 0 ≤ k → Lib.index t [10] = k → Lib.index (c :: t) [10] = k + 1 := fun c t k hc hk ht => by
      have hb : ((10 : UInt8) == c) = false := beq_eq_false_iff_ne.2 (Ne.symm hc)
      have ho : Lib.occAt (c :: t) [10] 0 = false := by simp [Lib.occAt, List.isPrefixOf, hb]
      unfold Lib.index
      simp only [ho, ht]
      have : ((k : Int) == -1) = false := by rw [beq_eq_false_iff_ne]; omega
      simp [this, Ne.symm hc]
    exact hs _ _ 5 (by decide) (by decide) (hs _ _ 4 (by decide) (by decide) (hs _ _ 3 (by decide) (by decide) (hs _ _ 2 (by decide) (by decide) (hs _ _ 1 (by decide) (by decide) (hs _ _ 0 (by decide) (by decide) (h0 _))))))
  unfold Lib.cut
  rw [hi, if_pos (by decide)]
  rfl
theorem words_park : wordsOf ⟨parkL.toArray⟩ = [⟨#[112, 97, 114, 107]⟩, ⟨#[48]⟩] := by decide +kernel
theorem read_park : readB ⟨parkL.toArray⟩ = some parkE := by
  have hf : formOf (⟨#[112, 97, 114, 107]⟩ : ByteArray) 19 = some 15 := by decide +kernel
  have e0 : Lib.itoa 0 = [48] := by unfold Lib.itoa; rw [if_neg (by omega), Lib.decDigits]; rfl
  have ha : atoiN [48] = some 0 := by decide +kernel
  have hg : fillTo (formAt 15) [⟨#[48]⟩] 4 = some ([0, 0, 0, 0], []) := by
    have hu : formAt 15 = ⟨[112, 97, 114, 107], false, false, false⟩ := rfl
    simp [fillTo, hu, usAt, ha, e0]
  have hv : validB (evOf 15 [0, 0, 0, 0]) = true := by decide
  unfold readB
  rw [words_park]
  simp only [List.headD_cons, hf, List.tail_cons, hg, hv]
  rfl
theorem parseR_parks : ∀ (n f : Nat) (out : List Ev) (k : Int), 7 * n < f → out.length + n ≤ 65536 → parseR f (parks n) out k = (out ++ List.replicate n parkE, 0, 0) := by
  intro n
  induction n with
  | zero =>
    intro f out k hf _
    obtain ⟨f, rfl⟩ : ∃ g, f = g + 1 := ⟨f - 1, by omega⟩
    rw [parseR_succ, if_pos (show parks 0 = [] from rfl)]; simp
  | succ n ih =>
    intro f out k hf ho
    obtain ⟨f, rfl⟩ : ∃ g, f = g + 1 := ⟨f - 1, by omega⟩
    rw [parseR_succ, if_neg (by simp [parks, parkN]), cut_parks, if_pos rfl, read_park]
    simp only
    rw [if_neg (by omega), ih f _ _ (by omega) (by simp; omega), List.replicate_succ]
    simp
theorem parseR_over : ∀ (n f : Nat) (out : List Ev) (k : Int), 7 * n < f → out.length ≤ 65536 → 65536 < out.length + n → parseR f (parks n) out k = ([], k + (65536 - out.length), 2) := by
  intro n
  induction n with
  | zero => intro f out k hf h1 h2; omega
  | succ n ih =>
    intro f out k hf h1 h2
    obtain ⟨f, rfl⟩ : ∃ g, f = g + 1 := ⟨f - 1, by omega⟩
    rw [parseR_succ, if_neg (by simp [parks, parkN]), cut_parks, if_pos rfl, read_park]
    simp only
    by_cases h : out.length = 65536
    · rw [if_pos h, h]; simp
    · rw [if_neg h, ih f _ _ (by omega) (by simp; omega) (by simp; omega)]
      simp only [List.length_append, List.length_cons, List.length_nil, Prod.mk.injEq, true_and, and_true]
      omega
theorem parse_parks {n : Nat} (h : n ≤ 65536) : parseB (parks n) = (List.replicate n parkE, 0, 0) := by
  unfold parseB
  rw [if_neg (by rw [parks_len]; omega), parseR_parks n _ _ _ (by rw [parks_len]; omega) (by simp; omega)]
  simp
theorem parse_over : parseB (parks 65537) = ([], 65537, 2) := by
  unfold parseB
  rw [if_neg (by rw [parks_len]; omega), parseR_over 65537 _ _ _ (by rw [parks_len]; omega) (by simp) (by simp)]
  rfl
theorem line_park : lineB parkE = parkN := by
  have e0 : Lib.itoa 0 = [48] := by unfold Lib.itoa; rw [if_neg (by omega), Lib.decDigits]; rfl
  have hu : formAt 15 = ⟨[112, 97, 114, 107], false, false, false⟩ := rfl
  simp [lineB, lineTo, segB, flAt, usAt, parkE, parkN, hu, e0]
theorem fmtB_parks (n : Nat) : fmtB (List.replicate n parkE) = parks n := by
  induction n with
  | zero => rfl
  | succ n ih =>
    rw [List.replicate_succ]
    show lineB parkE ++ fmtB (List.replicate n parkE) = _
    rw [line_park, ih]; rfl
theorem fmt_parks {n : Nat} (h : n ≤ 65536) : fmtRes (List.replicate n parkE) = (parks n, 0) := by
  unfold fmtRes
  rw [if_neg (by simp; omega), if_pos (by rw [List.all_eq_true]; intro e he; rw [(List.mem_replicate.1 he).2]; decide), fmtB_parks]
theorem fmt_over : fmtRes (List.replicate 65537 parkE) = ([], 2) := by
  unfold fmtRes
  rw [if_pos (by rw [List.length_replicate]; decide)]
end Go.Proofs.YtncnepmgmphanaaDoor
