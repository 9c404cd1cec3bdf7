/- A slice of structs of two numbers, read as entries. No condition. -/
import Derived.Test.YtfhmphbfngdkeaaScriptKit2
namespace Go.Proofs.Ytfhmphbfngdkeaa
open Go.RowKit

def ents (rows : List (List Int)) : List E := rows.map fun r => (r.getD 0 0, r.getD 1 0)
theorem ents_length (rows : List (List Int)) : (ents rows).length = rows.length := by simp [ents]
theorem flat_get : ∀ (rows : List (List Int)) (j : Nat) (h : j < (flat (ents rows)).length), (flat (ents rows))[j] = .int .i64 ((rows.getD (j / 2) []).getD (j % 2) 0)
  | [], j, h => by simp [ents, flat] at h
  | r :: rows, 0, h => by simp [ents, flat]
  | r :: rows, 1, h => by simp [ents, flat]
  | r :: rows, j + 2, h => by
    have ih := flat_get rows j (by simp [ents, flat] at h ⊢; omega)
    have e1 : (j + 2) / 2 = j / 2 + 1 := by omega
    have e2 : (j + 2) % 2 = j % 2 := by omega
    rw [e1, e2]
    simp only [ents, List.map_cons, flat, List.getElem_cons_succ]
    simpa [ents] using ih

theorem en_of_rows {W : World} {ao : Option Addr} {cap : Nat} {rows : List (List Int)} (c : RowsAt W ao [.i64, .i64] rows) (n : ao = none → rows = [] ∧ cap = 0) (l : rows.length ≤ cap) : En W (.slice ao rows.length cap) (ents rows) := by
  refine ⟨ao, cap, by rw [ents_length], fun hp => ?_, fun e => ?_, by rw [ents_length]; exact l⟩
  · rw [flat_length, ents_length] at hp
    obtain ⟨b, off, e, hc⟩ := c (by omega)
    refine ⟨b, off, e, fun j hj => ?_⟩
    rw [flat_get]
    rw [flat_length, ents_length] at hj
    have h1 := hc (j / 2) (by omega) (j % 2) .i64 (by
      have : j % 2 = 0 ∨ j % 2 = 1 := by omega
      rcases this with e | e <;> rw [e] <;> rfl)
    rw [← h1]
    congr 2
    simp only [List.length_cons, List.length_nil]
    omega
  · obtain ⟨rfl, h⟩ := n e
    exact ⟨rfl, h⟩
end Go.Proofs.Ytfhmphbfngdkeaa
