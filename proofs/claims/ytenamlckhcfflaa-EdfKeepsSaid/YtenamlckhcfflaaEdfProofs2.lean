/- The statement EdfKeeps of chapter 14 (edf): the law returns true for every input. No condition. -/
import Derived.Test.YtenamlckhcfflaaLaw
import Derived.Test.YtenamlckhcfflaaEdfLaws2
namespace Go.Proofs.Ytenamlckhcfflaa
open Go.ChangeShapes Go.WideShapes Go.ChangeAt Go.RowKit
set_option linter.unusedVariables false

theorem EdfKeeps_law : LawWalk 5 Try.f5 := by
  intro H enc W base args ds ps hval hA hlt hsz
  rw [Try.params5] at hA hval
  obtain ⟨v0, vs0, d0, ds0, p0, q0, hargs, rfl, rfl, h0, r0⟩ := trodAll_cons hA
  obtain ⟨rfl, rfl, rfl⟩ := trodAll_nil r0
  obtain rfl : args = #[v0] := by cases args; simp_all
  obtain ⟨ao0, cap0, zs0, rfl, c0, w0, l0, m0, n0⟩ := open_islice2 Try.underlying22 Try.underlying23 (by kernel_rfl) (hval 0 22 v0 rfl rfl) h0
  exact EdfKeeps_any W _ zs0 ⟨ao0, cap0, rfl, c0, n0, l0⟩ (by unfold maxLen at m0; omega)

set_option maxRecDepth 100000 in
theorem EdfKeeps_lifted (os : Os) (started : os.Started) (H : Type) (enc : TypeId × Value → H) :
    ReturnsInHanded {} Try.checked os 5 .any (Rows.edfKeepsSpec.pre6 enc Try.prog Try.f5 Rows.edfKeepsRow.domain false) (Rows.edfKeepsSpec.post enc Try.prog Try.f5 false true false false) :=
  law_lifted (enc := enc) (s := Rows.edfKeepsSpec) started (by kernel_rfl) Try.func5 rfl
      (ChangeSpec.witness6 (enc := enc) (C := Try.checked) false ⟨#[], #[.slice none 0 0], []⟩ 8 (by kernel_rfl) (by kernel_rfl) (by kernel_rfl) (by kernel_rfl))
      rfl (readable_all (by kernel_rfl))
      (by intro ds h; rw [Try.params5] at h; match ds, h with | [x0], _ => exact ⟨rfl, rfl, rfl⟩)
      EdfKeeps_law

theorem EdfKeeps_holds : Rows.EdfKeepsSaid :=
  OpenClaim.holds_of_wide 5 Try.f5 rfl rfl rfl rfl rfl rfl rfl ⟨rfl, rfl, rfl, rfl, rfl⟩ rfl rfl rfl rfl rfl (by kernel_rfl) Try.func5 (by kernel_rfl)
    (of_decide_eq_true (by kernel_rfl)) (by unfold Func.isWrapper; first | (rw [if_pos (by decide +kernel)]; kernel_rfl) | (rw [if_neg (by decide +kernel)]; exact ⟨rfl, rfl⟩))
    (fun os started H enc _ => EdfKeeps_lifted os started H enc)


end Go.Proofs.Ytenamlckhcfflaa
