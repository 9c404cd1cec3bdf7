/- The events of a text: plain. No condition. -/
import Derived.Test.YtncnepmgmphanaaDoorEvReadP
namespace Go.Proofs.YtncnepmgmphanaaDoor
open Go.RowKit
set_option linter.unusedVariables false

/-- The events of a text, the line that is wrong, the error: by fuel. -/
def parseR : Nat → List UInt8 → List Ev → Int → List Ev × Int × Int
  | 0, _, out, _ => (out, 0, 0)
  | f + 1, tx, out, n =>
    if tx = [] then (out, 0, 0) else
    if (Lib.cut tx [10]).2.2 = true then match readB ⟨(Lib.cut tx [10]).1.toArray⟩ with
      | none => ([], n, 4)
      | some e => if out.length = 65536 then ([], n, 2) else parseR f (Lib.cut tx [10]).2.1 (out ++ [e]) (n + 1)
    else ([], n, 4)
theorem parseR_succ (f : Nat) (tx : List UInt8) (out : List Ev) (n : Int) : parseR (f + 1) tx out n = if tx = [] then (out, 0, 0) else
    if (Lib.cut tx [10]).2.2 = true then match readB ⟨(Lib.cut tx [10]).1.toArray⟩ with
      | none => ([], n, 4)
      | some e => if out.length = 65536 then ([], n, 2) else parseR f (Lib.cut tx [10]).2.1 (out ++ [e]) (n + 1)
    else ([], n, 4) := rfl
def parseB (tx : List UInt8) : List Ev × Int × Int := if 4194304 < tx.length then ([], 0, 2) else parseR (tx.length + 1) tx [] 1

theorem cut_len {tx : List UInt8} (h : (Lib.cut tx [10]).2.2 = true) : (Lib.cut tx [10]).2.1.length < tx.length ∧ (Lib.cut tx [10]).1.length ≤ tx.length := by
  unfold Lib.cut at h ⊢
  split
  · rename_i hi
    simp only [List.length_drop, List.length_take, List.length_cons, List.length_nil]
    cases tx with
    | nil => exact absurd hi (by decide)
    | cons a l => simp only [List.length_cons]; omega
  · rename_i hi
    rw [if_neg hi] at h
    cases h
theorem cut_len1 (tx : List UInt8) : (Lib.cut tx [10]).1.length ≤ tx.length := by
  unfold Lib.cut
  split
  · simp only [List.length_take]; omega
  · exact Nat.le_refl _

/-- The cells of events. -/
def flatE (l : List Ev) : List Value := l.flatMap fun e => [.int .i64 e.kind, .int .i64 e.worker, .int .i64 e.task, .int .i64 e.other, .int .i64 e.level]
theorem flatE_len (l : List Ev) : (flatE l).length = l.length * 5 := by
  induction l with
  | nil => rfl
  | cons a l ih => simp only [flatE, List.flatMap_cons, List.length_append, List.length_cons, List.length_nil] at ih ⊢; omega
theorem flatE_snoc (l : List Ev) (e : Ev) : flatE (l ++ [e]) = flatE l ++ [.int .i64 e.kind, .int .i64 e.worker, .int .i64 e.task, .int .i64 e.other, .int .i64 e.level] := by simp [flatE]
theorem flatE_at (l : List Ev) : ∀ i, i < l.length → (flatE l)[i * 5]? = some (.int .i64 (l.getD i Ev.zero).kind) ∧ (flatE l)[i * 5 + 1]? = some (.int .i64 (l.getD i Ev.zero).worker) ∧ (flatE l)[i * 5 + 2]? = some (.int .i64 (l.getD i Ev.zero).task) ∧ (flatE l)[i * 5 + 3]? = some (.int .i64 (l.getD i Ev.zero).other) ∧ (flatE l)[i * 5 + 4]? = some (.int .i64 (l.getD i Ev.zero).level) := by
  induction l with
  | nil => intro i h; simp at h
  | cons a l ih =>
    intro i h
    cases i with
    | zero => exact ⟨rfl, rfl, rfl, rfl, rfl⟩
    | succ i =>
      obtain ⟨h0, h1, h2, h3, h4⟩ := ih i (by simpa using h)
      have e : ∀ j, (flatE (a :: l))[(i + 1) * 5 + j]? = (flatE l)[i * 5 + j]? := fun j => by
        rw [show (i + 1) * 5 + j = (i * 5 + j) + 5 by omega]; rfl
      have e0 := e 0
      simp only [Nat.add_zero] at e0
      rw [e0, e 1, e 2, e 3, e 4]
      exact ⟨h0, h1, h2, h3, h4⟩

theorem el_owns {w : World} {B : Nat} {T : TypeId} {v : Value} {l : List Ev} (h : w.ownsRow B T 5 v l.length (flatE l)) : EL w v l := by
  obtain ⟨hl, ⟨rfl, h0⟩ | ⟨g, cap, cur, rfl, hb, hh, hn, hm, hs, ht⟩⟩ := h
  · exact ⟨none, 0, by rw [h0], by omega, fun h => by omega⟩
  · refine ⟨_, cap, rfl, hn, fun _ => ⟨g, 0, rfl, fun i hi => ?_⟩⟩
    have at' : ∀ j v, (flatE l)[j]? = some v → w.cell? ⟨g, j, none⟩ = some v := fun j v hj => by
      rw [cell_blk hh]
      rw [← ht, List.getElem?_take] at hj
      split at hj
      · simpa using hj
      · cases hj
    obtain ⟨h0, h1, h2, h3, h4⟩ := flatE_at l i hi
    rw [Nat.zero_add]
    exact ⟨at' _ _ h0, at' _ _ h1, at' _ _ h2, at' _ _ h3, at' _ _ h4⟩
end Go.Proofs.YtncnepmgmphanaaDoor
