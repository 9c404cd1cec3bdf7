/- What the laws by Match share where the deque's places lie in a block of their own. -/
import Derived.Test.YtlklfpbimoolbaaGreatMatchLaw
namespace Go.Proofs.YtlklfpbimoolbaaGreat
open Go.RowKit
set_option linter.unusedVariables false

/-- The deque's places lie in block b. -/
def QAt (w : World) (b : Nat) (qt qb qr qc : Int) : Prop :=
  w.cell? ⟨b, 0, none⟩ = some (.int .i64 qt) ∧ w.cell? ⟨b, 1, none⟩ = some (.int .i64 qb) ∧ w.cell? ⟨b, 2, none⟩ = some (.int .i64 qr) ∧ w.cell? ⟨b, 3, none⟩ = some (.int .i64 qc)
theorem QAt.keepS {S : List Nat} {w w' : World} {b : Nat} {qt qb qr qc : Int} (h : QAt w b qt qb qr qc) (o : Only S w w') (hn : b ∉ S) : QAt w' b qt qb qr qc :=
  ⟨o.keepCell h.1 hn, o.keepCell h.2.1 hn, o.keepCell h.2.2.1 hn, o.keepCell h.2.2.2 hn⟩
theorem QAt.keep {w w' : World} {b : Nat} {qt qb qr qc : Int} (h : QAt w b qt qb qr qc) (o : Only [] w w') : QAt w' b qt qb qr qc := h.keepS o (by simp)
theorem QAt.of {w : World} {b : Nat} {qt qb qr qc : Int} {T : TypeId} {f : Nat × Nat} (h : w.heap[b]? = some (.cells #[.int .i64 qt, .int .i64 qb, .int .i64 qr, .int .i64 qc] T f)) : QAt w b qt qb qr qc := by
  refine ⟨?_, ?_, ?_, ?_⟩ <;> (rw [cell_blk h]; rfl)

/-- The environments' blocks are new, and none of them is the block of the deque's places. -/
structure EnvNew (w w3 : World) (qb en m bc ck r rc : Nat) : Prop where
  lo : w.heap.size ≤ en ∧ w.heap.size ≤ m ∧ w.heap.size ≤ bc ∧ w.heap.size ≤ ck ∧ w.heap.size ≤ r ∧ w.heap.size ≤ rc
  q : qb < en ∧ qb < m ∧ qb < bc ∧ qb < ck ∧ qb < r ∧ qb < rc
  hi : bc < w3.heap.size ∧ rc < w3.heap.size
  ql : qb < w3.heap.size
  sz : w.heap.size ≤ w3.heap.size

theorem EnvNew.later {w w3 w4 : World} {qb en m bc ck r rc : Nat} (h : EnvNew w w3 qb en m bc ck r rc) (o : Only [] w3 w4) : EnvNew w w4 qb en m bc ck r rc := by
  have s := o.size
  obtain ⟨a, b, ⟨c1, c2⟩, d, e⟩ := h
  exact ⟨a, b, ⟨by omega, by omega⟩, by omega, by omega⟩
theorem EnvNew.bs {w w3 : World} {qb en m bc ck r rc p y fb : Nat} (h : EnvNew w w3 qb en m bc ck r rc) (h1 : w3.heap.size ≤ p) (h2 : w3.heap.size ≤ y) (h3 : w3.heap.size ≤ fb) : ∀ t ∈ [p, m, bc, ck, y, fb, r, rc], t ∈ ([] : List Nat) ∨ w.heap.size ≤ t := by
  obtain ⟨⟨a1, a2, a3, a4, a5, a6⟩, _, _, _, s⟩ := h
  intro t ht
  simp at ht
  right
  rcases ht with rfl | rfl | rfl | rfl | rfl | rfl | rfl | rfl <;> omega
theorem EnvNew.nq {w w3 : World} {qb en m bc ck r rc p y fb : Nat} (h : EnvNew w w3 qb en m bc ck r rc) (h1 : w3.heap.size ≤ p) (h2 : w3.heap.size ≤ y) (h3 : w3.heap.size ≤ fb) : qb ∉ [p, m, bc, ck, y, fb, r, rc] := by
  obtain ⟨_, ⟨a1, a2, a3, a4, a5, a6⟩, _, ql, s⟩ := h
  simp
  omega
theorem EnvNew.fr {w w3 : World} {qb en m bc ck r rc p y fb : Nat} {bo : Option Addr} {zs : List Int} (h : EnvNew w w3 qb en m bc ck r rc) (hz : ∀ q, bo = some q → 0 < zs.length → q.block < w.heap.size) (h1 : w3.heap.size ≤ p) (h2 : w3.heap.size ≤ y) (h3 : w3.heap.size ≤ fb) :
    ∀ a, bo = some a → 0 < zs.length → a.block ∉ [p, m, bc, ck, y, fb, r, rc] := by
  obtain ⟨⟨a1, a2, a3, a4, a5, a6⟩, _, _, _, s⟩ := h
  intro a e h0
  have := hz a e h0
  simp
  omega

theorem blk_lt_of_ints {w : World} {bo : Option Addr} {zs : List Int} (hz : CellsAt w bo (zs.map (.int .i64))) : ∀ q, bo = some q → 0 < zs.length → q.block < w.heap.size := by
  intro q e hp
  obtain ⟨bz, off, e2, hc⟩ := hz.ints hp
  rw [e] at e2; cases e2
  exact lt_of_cell (hc 0 hp)

theorem QOk.clear {q : Q4} (h : QOk q) (a b : Int) : (newClear a b q).ok := newClear_ok a b q h.ring
end Go.Proofs.YtlklfpbimoolbaaGreat
