/- The statement EdfSorts of chapter 14 (edf): the law returns true for every input. No condition. -/
import Derived.Test.YtenamlckhcfflaaLaw
import Derived.Test.YtenamlckhcfflaaEdfLaws3
namespace Go.Proofs.Ytenamlckhcfflaa
open Go.ChangeShapes Go.WideShapes Go.ChangeAt Go.RowKit Go.Lib
set_option linter.unusedVariables false

set_option maxRecDepth 100000 in
theorem EdfSorts_law : LawWalk 6 Try.f6 := by
  intro H enc W base args ds ps hval hA hlt hsz
  rw [Try.params6] at hA hval
  obtain ⟨v0, vs0, d0, ds0, p0, q0, hargs, rfl, rfl, h0, r0⟩ := trodAll_cons hA
  obtain ⟨rfl, rfl, rfl⟩ := trodAll_nil r0
  obtain rfl : args = #[v0] := by cases args; simp_all
  obtain ⟨ao0, cap0, zs0, rfl, c0, w0, l0, m0, n0⟩ := open_islice2 Try.underlying22 Try.underlying23 (by kernel_rfl) (hval 0 22 v0 rfl rfl) h0
  exact EdfSorts_any W _ zs0 ⟨ao0, cap0, rfl, c0, n0, l0⟩ (by unfold maxLen at m0; omega)

set_option maxRecDepth 100000 in
theorem EdfSorts_lifted (os : Os) (started : os.Started) (H : Type) (enc : TypeId × Value → H) :
    ReturnsInHanded {} Try.checked os 6 .any (Rows.edfSortsSpec.pre6 enc Try.prog Try.f6 Rows.edfSortsRow.domain false) (Rows.edfSortsSpec.post enc Try.prog Try.f6 false true false false) :=
  law_lifted (enc := enc) (s := Rows.edfSortsSpec) started (by kernel_rfl) Try.func6 rfl
      (ChangeSpec.witness6 (enc := enc) (C := Try.checked) false ⟨#[], #[.slice none 0 0], []⟩ 8 (by kernel_rfl) (by kernel_rfl) (by kernel_rfl) (by kernel_rfl))
      rfl (readable_all (by kernel_rfl))
      (by intro ds h; rw [Try.params6] at h; match ds, h with | [x0], _ => exact ⟨rfl, rfl, rfl⟩)
      EdfSorts_law

theorem EdfSorts_holds : Rows.EdfSortsSaid :=
  OpenClaim.holds_of_wide 6 Try.f6 rfl rfl rfl rfl rfl rfl rfl ⟨rfl, rfl, rfl, rfl, rfl⟩ rfl rfl rfl rfl rfl (by kernel_rfl) Try.func6 (by kernel_rfl)
    (of_decide_eq_true (by kernel_rfl)) (by unfold Func.isWrapper; first | (rw [if_pos (by decide +kernel)]; kernel_rfl) | (rw [if_neg (by decide +kernel)]; exact ⟨rfl, rfl⟩))
    (fun os started H enc _ => EdfSorts_lifted os started H enc)
end Go.Proofs.Ytenamlckhcfflaa
