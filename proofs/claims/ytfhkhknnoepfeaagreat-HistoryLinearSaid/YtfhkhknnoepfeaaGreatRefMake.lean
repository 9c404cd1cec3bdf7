/- The reference's machines: made; a step of one, whatever its state. -/
import Derived.Test.YtfhkhknnoepfeaaGreatRefStep
namespace Go.Proofs.YtfhkhknnoepfeaaGreat
open Go.RowKit
set_option linter.unusedVariables false
set_option linter.unusedSimpArgs false

theorem rstep_any (w : World) (y fb r rc : Nat) (now : Int) (k : K) (s : MS) (hk : k.kind ≤ 4) (hok : k.over = false → k.ok) (h0 : k.over = false → k.code = 0 ∧ k.val = 0) (hA : RAp2 y fb r rc) (hrc : rc < w.heap.size) (hM : RMach w y fb k) (hR : REnvAt w r rc s now) (hn : s.count ≤ 4000000000000000000) :
    Calls Tryz.prog 35 #[.pointer (some ⟨y, 0, none⟩), .pointer (some ⟨r, 0, none⟩)] w (RStep y fb r rc now k s w) := by
  cases ho : k.over
  · exact rstep_run w y fb r rc now k s hk (hok ho) ho (h0 ho) hA hrc hM hR hn
  · exact rstep_over w y fb r rc now k s ho hM hR

theorem three_news (w : World) (a b c : Obj) : (((w.alloc a).alloc b).alloc c).heap[w.heap.size + 1 + 1]? = some c ∧ (((w.alloc a).alloc b).alloc c).heap[w.heap.size + 1]? = some b ∧ (((w.alloc a).alloc b).alloc c).heap.size = w.heap.size + 3 := by
  have h1 := blk_alloc_new ((w.alloc a).alloc b) c
  have h2 := blk_alloc_new (w.alloc a) b
  have s1 : (w.alloc a).heap.size = w.heap.size + 1 := by simp
  have s2 : ((w.alloc a).alloc b).heap.size = w.heap.size + 1 + 1 := by simp
  rw [s1] at h2
  rw [s2] at h1
  exact ⟨h1, by rw [blk_alloc_old (by omega)]; exact h2, by simp⟩

/-- What Make comes to. -/
def MakePost (k : K) (w : World) (e : Ending) (w' : World) : Prop := ∃ y fb, e = .returned (.pointer (some ⟨y, 0, none⟩)) ∧ Only [] w w' ∧ RMach w' y fb { k with line := 1 } ∧ w.heap.size ≤ y ∧ w.heap.size ≤ fb ∧ y ≠ fb ∧ y < w'.heap.size ∧ fb < w'.heap.size

set_option maxRecDepth 100000 in
set_option maxHeartbeats 4000000 in
theorem make_any (w : World) (k : K) (hk : k.kind ≤ 4) (ho : k.over = false) (hl : k.line = 0) :
    Calls Tryz.prog 34 #[.agg (frmC k).toArray] w (MakePost k w) := by
  obtain ⟨kind, ⟨qt, qb, qr, qc⟩, a, b, line, u, v, ww, ov, code, val⟩ := k
  simp only at hk ho hl
  subst hl
  have h22 : ((kind : Int) == 22) = false := by simp; omega
  simp only [frmC]
  go_enter Tryz.func34, Tryz.ntmps34
  go_wp2_with fail
  go_ret
  refine ⟨w.heap.size + 1 + 1, w.heap.size + 1, rfl, (((Only.refl [] w).alloc _).alloc _).alloc _, ⟨fun _ => ⟨(three_news w _ _ _).1, (three_news w _ _ _).2.1⟩, fun e => ?_⟩, by omega, by omega, by omega, ?_, ?_⟩
  · simp only at e
    rw [ho] at e; cases e
  · rw [(three_news w _ _ _).2.2]; omega
  · rw [(three_news w _ _ _).2.2]; omega
end Go.Proofs.YtfhkhknnoepfeaaGreat
