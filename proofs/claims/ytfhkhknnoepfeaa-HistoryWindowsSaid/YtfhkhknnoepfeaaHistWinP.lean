/- Three slices of two numbers each, made in any order: what lies in them. (Equations written by wip/gen_histwin.py.) -/
import Derived.Test.YtfhkhknnoepfeaaKit
namespace Go.Proofs.Ytfhkhknnoepfeaa
open Go.RowKit
set_option linter.unusedVariables false
set_option linter.unusedSimpArgs false

def sel3 (k p q r : Nat) : Nat := if k = 0 then p else if k = 1 then q else r
def tabV (k c : Nat) : Int := if k = 0 then (if c = 0 then 0 else 3) else if k = 1 then (if c = 0 then 1 else 2) else (if c = 0 then 1 else 4)
theorem sel_slice {k : Nat} (hk : k < 3) (p q r : Nat) : (#[Value.slice (some ⟨p, 0, none⟩) 2 2, .slice (some ⟨q, 0, none⟩) 2 2, .slice (some ⟨r, 0, none⟩) 2 2] : Array Value)[k]? = some (.slice (some ⟨sel3 k p q r, 0, none⟩) 2 2) := by
  rcases (show k = 0 ∨ k = 1 ∨ k = 2 by omega) with rfl | rfl | rfl <;> simp [sel3]

theorem sel_list {k : Nat} (hk : k < 3) (p q r : Nat) (h : k < ([Value.slice (some ⟨p, 0, none⟩) 2 2, .slice (some ⟨q, 0, none⟩) 2 2, .slice (some ⟨r, 0, none⟩) 2 2] : List Value).length) : ([Value.slice (some ⟨p, 0, none⟩) 2 2, .slice (some ⟨q, 0, none⟩) 2 2, .slice (some ⟨r, 0, none⟩) 2 2] : List Value)[k]'h = .slice (some ⟨sel3 k p q r, 0, none⟩) 2 2 := by
  rcases (show k = 0 ∨ k = 1 ∨ k = 2 by omega) with rfl | rfl | rfl <;> simp [sel3]
theorem blk4 (w : World) (a b c d : Obj) : ((((w.alloc a).alloc b).alloc c).alloc d).heap[w.heap.size]? = some a ∧ ((((w.alloc a).alloc b).alloc c).alloc d).heap[w.heap.size + 1]? = some b ∧ ((((w.alloc a).alloc b).alloc c).alloc d).heap[w.heap.size + 1 + 1]? = some c := by
  have s1 := World.size_alloc (w := w) (o := a)
  have s2 := World.size_alloc (w := w.alloc a) (o := b)
  have s3 := World.size_alloc (w := (w.alloc a).alloc b) (o := c)
  refine ⟨?_, ?_, ?_⟩
  · rw [blk_alloc_old (by omega), blk_alloc_old (by omega), blk_alloc_old (by omega)]; exact blk_alloc_new w a
  · rw [blk_alloc_old (by omega), blk_alloc_old (by omega), ← s1]; exact blk_alloc_new _ b
  · rw [blk_alloc_old (by omega), ← s1, ← s2]; exact blk_alloc_new _ c

theorem sel_perm0 (w : World) {k c : Nat} (hk : k < 3) (hc : c < 2) : ((((w.alloc (.cells #[.int .i64 0, .int .i64 3] 3)).alloc (.cells #[.int .i64 1, .int .i64 2] 3)).alloc (.cells #[.int .i64 1, .int .i64 4] 3)).alloc (.cells #[.slice (some ⟨w.heap.size, 0, none⟩) 2 2, .slice (some ⟨w.heap.size + 1, 0, none⟩) 2 2, .slice (some ⟨w.heap.size + 1 + 1, 0, none⟩) 2 2] 24)).cell? ⟨sel3 k (w.heap.size) (w.heap.size + 1) (w.heap.size + 1 + 1), c, none⟩ = some (.int .i64 (tabV k c)) := by
  obtain ⟨h1, h2, h3⟩ := blk4 w (.cells #[.int .i64 0, .int .i64 3] 3) (.cells #[.int .i64 1, .int .i64 2] 3) (.cells #[.int .i64 1, .int .i64 4] 3) (.cells #[.slice (some ⟨w.heap.size, 0, none⟩) 2 2, .slice (some ⟨w.heap.size + 1, 0, none⟩) 2 2, .slice (some ⟨w.heap.size + 1 + 1, 0, none⟩) 2 2] 24)
  rcases (show k = 0 ∨ k = 1 ∨ k = 2 by omega) with rfl | rfl | rfl <;> rcases (show c = 0 ∨ c = 1 by omega) with rfl | rfl <;> simp only [sel3, tabV, if_true, if_false, Nat.one_ne_zero, reduceIte, (by decide : ¬ (2 = 0)), (by decide : ¬ (2 = 1))] <;> first | (rw [cell_blk h1]; rfl) | (rw [cell_blk h2]; rfl) | (rw [cell_blk h3]; rfl)

theorem sel_perm1 (w : World) {k c : Nat} (hk : k < 3) (hc : c < 2) : ((((w.alloc (.cells #[.int .i64 0, .int .i64 3] 3)).alloc (.cells #[.int .i64 1, .int .i64 4] 3)).alloc (.cells #[.int .i64 1, .int .i64 2] 3)).alloc (.cells #[.slice (some ⟨w.heap.size, 0, none⟩) 2 2, .slice (some ⟨w.heap.size + 1 + 1, 0, none⟩) 2 2, .slice (some ⟨w.heap.size + 1, 0, none⟩) 2 2] 24)).cell? ⟨sel3 k (w.heap.size) (w.heap.size + 1 + 1) (w.heap.size + 1), c, none⟩ = some (.int .i64 (tabV k c)) := by
  obtain ⟨h1, h2, h3⟩ := blk4 w (.cells #[.int .i64 0, .int .i64 3] 3) (.cells #[.int .i64 1, .int .i64 4] 3) (.cells #[.int .i64 1, .int .i64 2] 3) (.cells #[.slice (some ⟨w.heap.size, 0, none⟩) 2 2, .slice (some ⟨w.heap.size + 1 + 1, 0, none⟩) 2 2, .slice (some ⟨w.heap.size + 1, 0, none⟩) 2 2] 24)
  rcases (show k = 0 ∨ k = 1 ∨ k = 2 by omega) with rfl | rfl | rfl <;> rcases (show c = 0 ∨ c = 1 by omega) with rfl | rfl <;> simp only [sel3, tabV, if_true, if_false, Nat.one_ne_zero, reduceIte, (by decide : ¬ (2 = 0)), (by decide : ¬ (2 = 1))] <;> first | (rw [cell_blk h1]; rfl) | (rw [cell_blk h2]; rfl) | (rw [cell_blk h3]; rfl)

theorem sel_perm2 (w : World) {k c : Nat} (hk : k < 3) (hc : c < 2) : ((((w.alloc (.cells #[.int .i64 1, .int .i64 2] 3)).alloc (.cells #[.int .i64 0, .int .i64 3] 3)).alloc (.cells #[.int .i64 1, .int .i64 4] 3)).alloc (.cells #[.slice (some ⟨w.heap.size + 1, 0, none⟩) 2 2, .slice (some ⟨w.heap.size, 0, none⟩) 2 2, .slice (some ⟨w.heap.size + 1 + 1, 0, none⟩) 2 2] 24)).cell? ⟨sel3 k (w.heap.size + 1) (w.heap.size) (w.heap.size + 1 + 1), c, none⟩ = some (.int .i64 (tabV k c)) := by
  obtain ⟨h1, h2, h3⟩ := blk4 w (.cells #[.int .i64 1, .int .i64 2] 3) (.cells #[.int .i64 0, .int .i64 3] 3) (.cells #[.int .i64 1, .int .i64 4] 3) (.cells #[.slice (some ⟨w.heap.size + 1, 0, none⟩) 2 2, .slice (some ⟨w.heap.size, 0, none⟩) 2 2, .slice (some ⟨w.heap.size + 1 + 1, 0, none⟩) 2 2] 24)
  rcases (show k = 0 ∨ k = 1 ∨ k = 2 by omega) with rfl | rfl | rfl <;> rcases (show c = 0 ∨ c = 1 by omega) with rfl | rfl <;> simp only [sel3, tabV, if_true, if_false, Nat.one_ne_zero, reduceIte, (by decide : ¬ (2 = 0)), (by decide : ¬ (2 = 1))] <;> first | (rw [cell_blk h1]; rfl) | (rw [cell_blk h2]; rfl) | (rw [cell_blk h3]; rfl)

theorem sel_perm3 (w : World) {k c : Nat} (hk : k < 3) (hc : c < 2) : ((((w.alloc (.cells #[.int .i64 1, .int .i64 2] 3)).alloc (.cells #[.int .i64 1, .int .i64 4] 3)).alloc (.cells #[.int .i64 0, .int .i64 3] 3)).alloc (.cells #[.slice (some ⟨w.heap.size + 1 + 1, 0, none⟩) 2 2, .slice (some ⟨w.heap.size, 0, none⟩) 2 2, .slice (some ⟨w.heap.size + 1, 0, none⟩) 2 2] 24)).cell? ⟨sel3 k (w.heap.size + 1 + 1) (w.heap.size) (w.heap.size + 1), c, none⟩ = some (.int .i64 (tabV k c)) := by
  obtain ⟨h1, h2, h3⟩ := blk4 w (.cells #[.int .i64 1, .int .i64 2] 3) (.cells #[.int .i64 1, .int .i64 4] 3) (.cells #[.int .i64 0, .int .i64 3] 3) (.cells #[.slice (some ⟨w.heap.size + 1 + 1, 0, none⟩) 2 2, .slice (some ⟨w.heap.size, 0, none⟩) 2 2, .slice (some ⟨w.heap.size + 1, 0, none⟩) 2 2] 24)
  rcases (show k = 0 ∨ k = 1 ∨ k = 2 by omega) with rfl | rfl | rfl <;> rcases (show c = 0 ∨ c = 1 by omega) with rfl | rfl <;> simp only [sel3, tabV, if_true, if_false, Nat.one_ne_zero, reduceIte, (by decide : ¬ (2 = 0)), (by decide : ¬ (2 = 1))] <;> first | (rw [cell_blk h1]; rfl) | (rw [cell_blk h2]; rfl) | (rw [cell_blk h3]; rfl)

theorem sel_perm4 (w : World) {k c : Nat} (hk : k < 3) (hc : c < 2) : ((((w.alloc (.cells #[.int .i64 1, .int .i64 4] 3)).alloc (.cells #[.int .i64 0, .int .i64 3] 3)).alloc (.cells #[.int .i64 1, .int .i64 2] 3)).alloc (.cells #[.slice (some ⟨w.heap.size + 1, 0, none⟩) 2 2, .slice (some ⟨w.heap.size + 1 + 1, 0, none⟩) 2 2, .slice (some ⟨w.heap.size, 0, none⟩) 2 2] 24)).cell? ⟨sel3 k (w.heap.size + 1) (w.heap.size + 1 + 1) (w.heap.size), c, none⟩ = some (.int .i64 (tabV k c)) := by
  obtain ⟨h1, h2, h3⟩ := blk4 w (.cells #[.int .i64 1, .int .i64 4] 3) (.cells #[.int .i64 0, .int .i64 3] 3) (.cells #[.int .i64 1, .int .i64 2] 3) (.cells #[.slice (some ⟨w.heap.size + 1, 0, none⟩) 2 2, .slice (some ⟨w.heap.size + 1 + 1, 0, none⟩) 2 2, .slice (some ⟨w.heap.size, 0, none⟩) 2 2] 24)
  rcases (show k = 0 ∨ k = 1 ∨ k = 2 by omega) with rfl | rfl | rfl <;> rcases (show c = 0 ∨ c = 1 by omega) with rfl | rfl <;> simp only [sel3, tabV, if_true, if_false, Nat.one_ne_zero, reduceIte, (by decide : ¬ (2 = 0)), (by decide : ¬ (2 = 1))] <;> first | (rw [cell_blk h1]; rfl) | (rw [cell_blk h2]; rfl) | (rw [cell_blk h3]; rfl)

theorem sel_perm5 (w : World) {k c : Nat} (hk : k < 3) (hc : c < 2) : ((((w.alloc (.cells #[.int .i64 1, .int .i64 4] 3)).alloc (.cells #[.int .i64 1, .int .i64 2] 3)).alloc (.cells #[.int .i64 0, .int .i64 3] 3)).alloc (.cells #[.slice (some ⟨w.heap.size + 1 + 1, 0, none⟩) 2 2, .slice (some ⟨w.heap.size + 1, 0, none⟩) 2 2, .slice (some ⟨w.heap.size, 0, none⟩) 2 2] 24)).cell? ⟨sel3 k (w.heap.size + 1 + 1) (w.heap.size + 1) (w.heap.size), c, none⟩ = some (.int .i64 (tabV k c)) := by
  obtain ⟨h1, h2, h3⟩ := blk4 w (.cells #[.int .i64 1, .int .i64 4] 3) (.cells #[.int .i64 1, .int .i64 2] 3) (.cells #[.int .i64 0, .int .i64 3] 3) (.cells #[.slice (some ⟨w.heap.size + 1 + 1, 0, none⟩) 2 2, .slice (some ⟨w.heap.size + 1, 0, none⟩) 2 2, .slice (some ⟨w.heap.size, 0, none⟩) 2 2] 24)
  rcases (show k = 0 ∨ k = 1 ∨ k = 2 by omega) with rfl | rfl | rfl <;> rcases (show c = 0 ∨ c = 1 by omega) with rfl | rfl <;> simp only [sel3, tabV, if_true, if_false, Nat.one_ne_zero, reduceIte, (by decide : ¬ (2 = 0)), (by decide : ¬ (2 = 1))] <;> first | (rw [cell_blk h1]; rfl) | (rw [cell_blk h2]; rfl) | (rw [cell_blk h3]; rfl)

end Go.Proofs.Ytfhkhknnoepfeaa
