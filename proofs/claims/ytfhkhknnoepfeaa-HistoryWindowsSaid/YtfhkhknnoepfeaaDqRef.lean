/- What the reference's memory computes, wherever it lies in a block. -/
import Derived.Test.YtfhkhknnoepfeaaDqMeth
import Derived.Deep.RegionHeld3
namespace Go.Proofs.Ytfhkhknnoepfeaa
open Go.RowKit

/-- The reference's memory s lies in block b behind the values pre, its cells in block bc; behind it post. -/
def RMemAt (w : World) (T : TypeId) (b : Nat) (pre post : List Value) (bc : Nat) (s : MS) : Prop :=
  ∃ v, w.heap[b]? = some (.cells (pre ++ ([v, .int .i64 s.kind, .int .i64 s.cell, .int .u64 s.old, .int .u64 s.new, .int .i64 s.count] ++ post)).toArray T (0, 0)) ∧ RowAt w v bc 99 (s.cells.map (.int .u64)) ∧ bc ≠ b ∧ 0 ≤ s.count

theorem get_mid {pre mid post : List Value} {o : Nat} (ho : pre.length = o) (i : Nat) (hi : i < mid.length) : (pre ++ (mid ++ post)).toArray[o + i]? = some mid[i] := by
  subst ho
  rw [List.getElem?_toArray, List.getElem?_append_right (by omega), Nat.add_sub_cancel_left, List.getElem?_append_left hi, List.getElem?_eq_getElem hi]

theorem set_mid {pre mid post : List Value} {o : Nat} (ho : pre.length = o) (i : Nat) (hi : i < mid.length) (x : Value) : (pre ++ (mid ++ post)).toArray.setIfInBounds (o + i) x = (pre ++ (mid.set i x ++ post)).toArray := by
  subst ho
  simp only [List.setIfInBounds_toArray]
  rw [List.set_append_right _ _ (by omega), Nat.add_sub_cancel_left, List.set_append_left _ _ hi]

theorem RMemAt.keep {S : List Nat} {w w' : World} {T : TypeId} {b bc : Nat} {pre post : List Value} {s : MS} (h : RMemAt w T b pre post bc s) (ho : Only S w w') (h1 : b ∉ S) (h2 : bc ∉ S) : RMemAt w' T b pre post bc s := by
  obtain ⟨v, a, r, c, d⟩ := h
  exact ⟨v, ho.keep a h1, r.keep ho h2, c, d⟩

/-- The world behind the stores of an access. -/
def accW (w : World) (b o bc k : Nat) (kind x y n : Int) : World :=
  (((((w.setCell ⟨bc, k, none⟩ (.int .u64 y)).setCell ⟨b, o + 1, none⟩ (.int .i64 kind)).setCell ⟨b, o + 2, none⟩ (.int .i64 k)).setCell ⟨b, o + 3, none⟩ (.int .u64 x)).setCell ⟨b, o + 4, none⟩ (.int .u64 y)).setCell ⟨b, o + 5, none⟩ (.int .i64 n)

theorem accW_only (w : World) (b o bc k : Nat) (kind x y n : Int) : Only [b, bc] w (accW w b o bc k kind x y n) :=
  ((((((Only.refl _ _).setCell (by simp) _).setCell (by simp) _).setCell (by simp) _).setCell (by simp) _).setCell (by simp) _).setCell (by simp) _

theorem rmemAt_acc {w : World} {T : TypeId} {b o bc : Nat} {pre post : List Value} {s : MS} {v : Value} {kind x y : Int} {k : Nat}
    (h1 : w.heap[b]? = some (.cells (pre ++ ([v, .int .i64 s.kind, .int .i64 s.cell, .int .u64 s.old, .int .u64 s.new, .int .i64 s.count] ++ post)).toArray T (0, 0))) (ho : pre.length = o)
    (hrow : ∀ (j : Nat) (x : Value) (w' : World), j < (s.cells.map (Value.int .u64)).length → w'.heap[bc]? = (w.setCell ⟨bc, j, none⟩ x).heap[bc]? → RowAt w' v bc 99 ((s.cells.map (Value.int .u64)).set j x))
    (hne : b ≠ bc) (hk : k < (s.cells.map (Value.int .u64)).length) (hx : s.cells.getD k 0 = x) (h0 : 0 ≤ s.count) :
    RMemAt (accW w b o bc k kind x y (s.count + 1)) T b pre post bc (s.acc kind k y) := by
  unfold accW
  have e0 : (w.setCell ⟨bc, k, none⟩ (.int .u64 y)).heap[b]? = some (.cells (pre ++ ([v, .int .i64 s.kind, .int .i64 s.cell, .int .u64 s.old, .int .u64 s.new, .int .i64 s.count] ++ post)).toArray T (0, 0)) := by rw [blk_setCell_ne hne]; exact h1
  have e1 := blk_setCell e0 (o + 1) (.int .i64 kind)
  rw [set_mid ho 1 (by simp)] at e1
  have e2 := blk_setCell e1 (o + 2) (.int .i64 k)
  rw [set_mid ho 2 (by simp)] at e2
  have e3 := blk_setCell e2 (o + 3) (.int .u64 x)
  rw [set_mid ho 3 (by simp)] at e3
  have e4 := blk_setCell e3 (o + 4) (.int .u64 y)
  rw [set_mid ho 4 (by simp)] at e4
  have e5 := blk_setCell e4 (o + 5) (.int .i64 (s.count + 1))
  rw [set_mid ho 5 (by simp)] at e5
  simp only [List.set_cons_succ, List.set_cons_zero] at e5
  refine ⟨v, ?_, ?_, fun e => hne e.symm, by simp only [MS.acc]; omega⟩
  · simp only [MS.acc, hx]
    exact e5
  · have h5 : ∀ (w : World) (i : Nat) (x : Value), (w.setCell ⟨b, i, none⟩ x).heap[bc]? = w.heap[bc]? := fun w i x => blk_setCell_ne (p := ⟨b, i, none⟩) (fun e => hne e.symm) x
    have := hrow k (.int .u64 y) _ hk ((h5 _ (o + 5) (.int .i64 (s.count + 1))).trans ((h5 _ (o + 4) (.int .u64 y)).trans ((h5 _ (o + 3) (.int .u64 x)).trans ((h5 _ (o + 2) (.int .i64 k)).trans (h5 _ (o + 1) (.int .i64 kind))))))
    rw [← List.map_set] at this
    exact this

end Go.Proofs.Ytfhkhknnoepfeaa
