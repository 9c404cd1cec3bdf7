/- A whole struct stored over a whole block: the block is that struct. -/
import Derived.Test.YtncnepmgmphanaaDoorKit
import Derived.Deep.MidRow
namespace Go.Proofs.YtncnepmgmphanaaDoor
open Go.RowKit
set_option linter.unusedVariables false

theorem blk_setCells {b : Nat} {T : TypeId} : ∀ (vs : List Value) (o : Nat) (w : World) (arr : Array Value), w.heap[b]? = some (.cells arr T (0, 0)) → o + vs.length ≤ arr.size →
    ∃ arr' : Array Value, (w.setCells b o vs).heap[b]? = some (.cells arr' T (0, 0)) ∧ arr'.size = arr.size ∧ (∀ j, j < o ∨ o + vs.length ≤ j → arr'[j]? = arr[j]?) ∧ ∀ j, j < vs.length → arr'[o + j]? = vs[j]?
  | [], o, w, arr, h, _ => ⟨arr, h, rfl, fun _ _ => rfl, fun j hj => by simp at hj⟩
  | v :: r, o, w, arr, h, hl => by
    simp only [List.length_cons] at hl
    obtain ⟨arr', h1, h2, h3, h4⟩ := blk_setCells r (o + 1) (w.setCell ⟨b, o, none⟩ v) (arr.setIfInBounds o v) (blk_setCell h o v) (by simp; omega)
    refine ⟨arr', h1, by simpa using h2, fun j hj => ?_, fun j hj => ?_⟩
    · rw [h3 j (by simp at hj; omega), Array.getElem?_setIfInBounds_ne (by simp at hj; omega)]
    · cases j with
      | zero =>
        rw [Nat.add_zero, h3 o (by omega), Array.getElem?_setIfInBounds_self_of_lt (by omega)]
        rfl
      | succ j =>
        simp only [List.length_cons] at hj
        have := h4 j (by omega)
        rw [show o + (j + 1) = o + 1 + j from by omega, this]
        rfl

theorem only_setCells (b : Nat) : ∀ (vs : List Value) (o : Nat) (w : World), Only [b] w (w.setCells b o vs)
  | [], _, w => Only.refl _ _
  | v :: r, o, w => ((Only.refl [b] w).setCell (by simp) v).trans (only_setCells b r (o + 1) _) (by simp)

/-- What a store of a whole struct leaves. -/
def Stored (w w' : World) (b : Nat) (cs : List Value) : Prop := Only [b] w w' ∧ ∀ (arr : Array Value) (T : TypeId), w.heap[b]? = some (.cells arr T (0, 0)) → arr.size = cs.length → w'.heap[b]? = some (.cells cs.toArray T (0, 0))

theorem stored_setCells (w : World) (b : Nat) (cs : List Value) : Stored w (w.setCells b 0 cs) b cs := by
  refine ⟨only_setCells b cs 0 w, fun arr T h hs => ?_⟩
  obtain ⟨arr', h1, h2, _, h4⟩ := blk_setCells cs 0 w arr h (by omega)
  rw [h1]
  congr 2
  apply Array.ext_getElem?
  intro i
  by_cases hi : i < cs.length
  · have := h4 i hi
    rw [Nat.zero_add] at this
    rw [this]; simp
  · rw [Array.getElem?_eq_none (by omega), Array.getElem?_eq_none (by simp; omega)]

theorem wpList_store_agg {P : Program} {ops : Array Oper} {rest : List Oper} {op : Oper} {a : Act} {w : World} {Q : Exit → Act → World → Prop} (hgd : op.guard = none) (ty : TypeId) (x y : Operand) (ho : op.op = .store ty x y)
    (b : Nat) (cs : List Value) (hx : a.eval x = .pointer (some ⟨b, 0, none⟩)) (hy : a.eval y = .agg cs.toArray) (n : Nat) (hn : cs.length = n)
    (arr : Array Value) (T : TypeId) (hb : w.heap[b]? = some (.cells arr T (0, 0))) (ha : arr.size = n) (hi : (P.info? ty).map (·.size) = some n) (h1 : cs.all (·.oneCell') = true)
    (h : ∀ w', Stored w w' b cs → wpList P ops Q rest (a.put op.dst undef) w') : wpList P ops Q (op :: rest) a w := by
  subst hn
  refine wpList_store_mid hgd ty x y ho b 0 cs.toArray hx hy (fun j hj => ?_) (by simpa using hi) (by simpa using h1) (h _ (by simpa using stored_setCells w b cs))
  rw [Nat.zero_add, cell_blk hb]
  exact ⟨by rw [Array.getElem?_eq_getElem (by simp at hj; omega)]; rfl, free_blk hb j⟩

/-- The results of a function: a struct in a place of its own, and a value. -/
theorem run_results_cell_tmp {P : Program} {fn : Func} {tmps : Array Value} {w : World} (x y : Nat) (t : TypeId) {a : Addr} {v u : Value} (hF : fn.results = #[.cell x t, .tmp y]) (hx : tmps.getD x undef = .pointer (some a)) (hl : (loadVar t a).run P w = .ok v w) (hy : tmps.getD y undef = u) :
    (results fn tmps).run P w = .ok (.tuple #[v, u]) w := by
  have h1 : asAddr (tmps.getD x undef) = pure a := by rw [hx]; rfl
  rw [Array.getD_eq_getD_getElem?] at h1 hy
  unfold results
  rw [hF]
  simp [h1, hy, hl, Result.andThen_ok]
theorem run_results_cell {P : Program} {fn : Func} {tmps : Array Value} {w : World} (x : Nat) (t : TypeId) {a : Addr} {v : Value} (hF : fn.results = #[.cell x t]) (hx : tmps.getD x undef = .pointer (some a)) (hl : (loadVar t a).run P w = .ok v w) :
    (results fn tmps).run P w = .ok v w := by
  have h1 : asAddr (tmps.getD x undef) = pure a := by rw [hx]; rfl
  rw [Array.getD_eq_getD_getElem?] at h1
  unfold results
  rw [hF]
  simp [h1, hl]

theorem rangeAt_blk {w : World} {b : Nat} {cs : List Value} {T : TypeId} {f : Nat × Nat} (h : w.heap[b]? = some (.cells cs.toArray T f)) : w.rangeAt b 0 cs := fun j v hv => by
  rw [Nat.zero_add, cell_blk h]
  simpa using hv

theorem there_blk {w : World} {b : Nat} {arr : Array Value} {T : TypeId} (h : w.heap[b]? = some (.cells arr T (0, 0))) : w.there b 0 arr.size := fun j hj => by
  rw [Nat.zero_add, cell_blk h]
  exact ⟨by rw [Array.getElem?_eq_getElem hj]; rfl, free_blk h j⟩
end Go.Proofs.YtncnepmgmphanaaDoor
