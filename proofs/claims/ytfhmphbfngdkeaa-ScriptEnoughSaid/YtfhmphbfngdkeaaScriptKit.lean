/- Slices of entries in memory; a map that holds a set of places; the builtin clear. No condition. -/
import Derived.Test.YtfhmphbfngdkeaaRows
import Derived.Test.YtfhmphbfngdkeaaKit
import Derived.Test.YtfhmphbfngdkeaaScriptPlain
import Derived.WalkSpells
import Derived.Deep.QuietTactic
import Derived.BigQuiet
import Derived.BigRegion
import Derived.Maps.OwnSet
import Derived.Maps.OwnOps
import Derived.Maps.Views
import Derived.Laws.AppendOwnNone
namespace Go.Proofs.Ytfhmphbfngdkeaa
open Go.RowKit Go.ChangeMaps Go.MapKept
open Go.WideElems (Fit rd rg pl rd_val elemAt)
open Go.Maps (Keyed)
set_option linter.unusedVariables false

theorem infoE : (Try.prog.info? 35).map (fun i => (i.zero, i.size, i.bytes)) = some (some (.agg #[.int .i64 0, .int .i64 0]), 2, 16) := by kernel_rfl

/-- v is a slice of the entries l. -/
def En (w : World) (v : Value) (l : List E) : Prop := ∃ ao cap, v = .slice ao l.length cap ∧ CellsAt w ao (flat l) ∧ (ao = none → l = [] ∧ cap = 0) ∧ l.length ≤ cap

theorem En.keep {w w' : World} {v : Value} {l : List E} (h : En w v l) (o : Only [] w w') : En w' v l := by
  obtain ⟨ao, cap, rfl, h1, h2, h3⟩ := h
  exact ⟨ao, cap, rfl, h1.keep0 o, h2, h3⟩
theorem En.nil (w : World) : En w (.slice none 0 0) [] := ⟨none, 0, rfl, CellsAt.nil _ _, fun _ => ⟨rfl, rfl⟩, Nat.le_refl _⟩

/-- The two cells of entry i. -/
theorem cells_entry {w : World} {ao : Option Addr} {l : List E} (h : CellsAt w ao (flat l)) (hp : 0 < l.length) :
    ∃ b off, ao = some ⟨b, off, none⟩ ∧ ∀ i, i < l.length → w.cell? ⟨b, off + i * 2, none⟩ = some (.int .i64 (l.getD i (0, 0)).1) ∧ w.cell? ⟨b, off + i * 2 + 1, none⟩ = some (.int .i64 (l.getD i (0, 0)).2) := by
  obtain ⟨b, off, e, hc⟩ := h (by rw [flat_length]; omega)
  refine ⟨b, off, e, fun i hi => ⟨?_, ?_⟩⟩
  · have h1 := hc (2 * i) (by rw [flat_length]; omega)
    have h2 := flat_at0 l i hi
    rw [List.getElem?_eq_getElem (by rw [flat_length]; omega)] at h2
    rw [Nat.mul_comm, h1, h2]
  · have h1 := hc (2 * i + 1) (by rw [flat_length]; omega)
    have h2 := flat_at1 l i hi
    rw [List.getElem?_eq_getElem (by rw [flat_length]; omega)] at h2
    rw [Nat.add_assoc, Nat.mul_comm, h1, h2]

theorem lt_of_owned {w : World} {base : Nat} {T : TypeId} {sz : Nat} {v : Value} {n : Nat} {xs : List Value} (h : w.ownsRow base T sz v n xs) (hv : v ≠ .slice none 0 0) :
    ∃ g cap, v = .slice (some ⟨g, 0, none⟩) n cap ∧ base ≤ g ∧ g < w.heap.size ∧ n ≤ cap ∧ cap ≤ 9223372036854775807 := by
  obtain ⟨hl, h | ⟨g, cap, cur, rfl, hb, hh, hn, hc, hs, ht⟩⟩ := h
  · exact absurd h.1 hv
  · exact ⟨g, cap, rfl, hb, lt_of_blk hh, hn, by unfold maxLen at hc; omega⟩

theorem owns_slice {w : World} {base : Nat} {T : TypeId} {sz : Nat} {v : Value} {n : Nat} {xs : List Value} (h : w.ownsRow base T sz v n xs) :
    ∃ ao cap, v = .slice ao n cap := by
  obtain ⟨hl, ⟨rfl, rfl⟩ | ⟨g, cap, cur, rfl, _⟩⟩ := h
  · exact ⟨none, 0, rfl⟩
  · exact ⟨_, cap, rfl⟩

/-- An owned slice of entries, read. -/
theorem en_owns {w : World} {base : Nat} {T : TypeId} {v : Value} {l : List E} {n : Nat} (h : w.ownsRow base T 2 v n (flat l)) : En w v l ∧ n = l.length := by
  obtain ⟨hl, ⟨rfl, hn⟩ | ⟨g, cap, cur, rfl, hb, hh, hn, hc, hs, ht⟩⟩ := h
  · rw [flat_length] at hl
    obtain rfl := hn
    have e : l.length = 0 := by omega
    obtain rfl := List.eq_nil_of_length_eq_zero e
    exact ⟨En.nil _, rfl⟩
  · rw [flat_length] at hl
    have e : n = l.length := by omega
    subst e
    refine ⟨⟨some ⟨g, 0, none⟩, cap, rfl, (fun hp => ⟨g, 0, rfl, fun j hj => ?_⟩), (fun e => by cases e), hn⟩, rfl⟩
    rw [cell_blk hh, Nat.zero_add]
    rw [flat_length] at hj
    have h6 : (cur.toList.take (l.length * 2))[j]? = some (flat l)[j] := by rw [ht]; exact List.getElem?_eq_getElem (by rw [flat_length]; omega)
    rw [List.getElem?_take] at h6
    have hjn : j < l.length * 2 := by omega
    simpa [hjn] using h6

theorem owns_mono {w : World} {base base' : Nat} {T : TypeId} {sz : Nat} {v : Value} {n : Nat} {xs : List Value} (h : w.ownsRow base T sz v n xs) (hb : base' ≤ base) : w.ownsRow base' T sz v n xs := by
  obtain ⟨h1, h2 | ⟨g, cap, cur, e, hg, r⟩⟩ := h
  · exact ⟨h1, .inl h2⟩
  · exact ⟨h1, .inr ⟨g, cap, cur, e, Nat.le_trans hb hg, r⟩⟩
theorem owns_keep {w w' : World} {base : Nat} {T : TypeId} {sz : Nat} {v : Value} {n : Nat} {xs : List Value} (h : w.ownsRow base T sz v n xs) (ho : Only [] w w') : w'.ownsRow base T sz v n xs := by
  obtain ⟨h1, h2 | ⟨g, cap, cur, e, hg, hh, r⟩⟩ := h
  · exact ⟨h1, .inl h2⟩
  · exact ⟨h1, .inr ⟨g, cap, cur, e, hg, ho.keep hh (by simp), r⟩⟩

/-- The two cells of a new block. -/
theorem cell_two_new (w : World) (a c : Value) (T : TypeId) (b : Nat) (hb : b = w.heap.size) : ∀ j u, [a, c][j]? = some u → (w.alloc (.cells #[a, c] T)).cell? ((⟨b, 0, none⟩ : Addr).add j) = some u := by
  intro j u h
  subst hb
  have hn := blk_alloc_new w (.cells #[a, c] T)
  rw [Go.WideShapes.add_plain, cell_blk hn, Nat.zero_add]
  match j, h with
  | 0, h => simpa using h
  | 1, h => simpa using h
theorem oneCell_two (k1 k2 : IntKind) (x y : Int) : ∀ u ∈ [Value.int k1 x, Value.int k2 y], u.oneCell' = true := by
  intro u hu; simp at hu; rcases hu with rfl | rfl <;> rfl

/-- 'clear(m)' of a map that the call made. -/
theorem wpList_clear_own {H : Type} {P : Program} (w : World) {ops : Array Oper} {rest : List Oper} {o : Oper} {a : Act} {Q : Exit → Act → World → Prop}
    (hg : o.guard = none) (m : Operand) (t : TypeId) (hop : o.op = Op.call { callee := Callee.builtin Builtin.clear, args := #[m], argTypes := #[t] })
    (k e : TypeId) (ht : P.underlying t = some (.map k e)) (R : Value → Option (DataW H × List MemPlace)) (b n : Nat) (D : DataW H) (hm : a.eval m = .map (some b)) (hown : w.ownsMap P k R b n D)
    (hK : ∀ w', w'.ownsMap P k R b 0 (.map []) → w.grownBy w' (some b) → wpList P ops Q rest (a.put o.dst (.tuple #[])) w') :
    wpList P ops Q (o :: rest) a w := by
  refine wpList_plain hg fun K' hK' => ?_
  obtain ⟨es, clock, hb, F, hs, hD⟩ := hown
  have hrun : ∀ ty, (Builtin.clear_ #[t] ty #[.map (some b)]).run P w = .ok (.tuple #[]) { w with heap := w.heap.setIfInBounds b (.map #[] clock) } := fun ty => by
    simp [Builtin.clear_, run_underlying ht, Go.MapKept.run_getObj_map hb, Go.MapKept.run_setObj_map _ hb, Result.andThen]
  unfold Oper.wp
  simp [execOp, hop, resolve, invoke, builtin, hm, hrun, Result.andThen]
  refine hK' _ _ (hK _ ⟨#[], clock, (heap_set hb).1, ⟨by simp, stamped_empty _, by simp⟩, Nat.le_refl _, rfl⟩ ⟨rfl, rfl, rfl, by simp, fun i hi hne => (heap_set hb).2 i (fun e => hne (by rw [e]))⟩)
end Go.Proofs.Ytfhmphbfngdkeaa
