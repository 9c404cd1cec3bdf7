/- A slice of truth values among the arguments of a law. No condition. -/
import Derived.Test.YtnjddpijlgjgeaaLaw
import Derived.Deep.Grids
namespace Go.Proofs.Ytnjddpijlgjgeaa
open Go.ChangeShapes Go.WideShapes Go.ChangeAt Go.RowKit
set_option linter.unusedVariables false

section
variable {H : Type} {enc : TypeId × Value → H}
theorem open_bslice {P : Program} {W : World} {base b0 : Nat} {t e : TypeId} {v : Value} {d : DataW H} {ps : List MemPlace} (ht : P.underlying t = some (.slice e)) (he : P.underlying e = some .bool) (hc : P.cellsOf e = 1)
    (hok : Value.okWide P W .any b0 t v) (h : DataW.Trod enc P W base (fun _ => true) true t v d ps) :
    ∃ (ao : Option Addr) (cap : Nat) (bs : List Bool), v = .slice ao bs.length cap ∧ CellsAt W ao (bs.map .bool) ∧ bs.length ≤ cap ∧ cap ≤ maxLen := by
  obtain ⟨a0, len, cap, rfl⟩ := okWide_slice ht hok
  obtain ⟨fuel, hf⟩ := h
  rcases Go.Deep.open_bools ht he hc hf with ⟨hcs, _⟩ | ⟨a, len', cap', B, hcs, hb, hl, hm, hx, hcell⟩
  · simp [Value.cells] at hcs
    obtain ⟨rfl, rfl, rfl⟩ := hcs
    exact ⟨none, 0, [], rfl, CellsAt.nil _ _, by simp, by simp⟩
  · simp [Value.cells] at hcs
    obtain ⟨rfl, rfl, rfl⟩ := hcs
    refine ⟨some a, cap, (List.range len).map B, by simp, ?_, by simp; exact hl, hm⟩
    intro hp
    simp at hp
    have h0 := hcell 0 (by omega)
    obtain ⟨b, off, spot⟩ := a
    have hspot : spot = none := by simpa [Addr.add] using World.cell?_spot h0
    subst hspot
    refine ⟨b, off, rfl, fun j hj => ?_⟩
    simp at hj
    rw [← add_plain, hcell j (by omega)]
    simp
end
end Go.Proofs.Ytnjddpijlgjgeaa
