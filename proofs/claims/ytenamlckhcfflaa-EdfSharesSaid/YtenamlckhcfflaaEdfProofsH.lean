/- The statement EdfShares of chapter 14 (edf): the law returns true for every input. No condition. -/
import Derived.Test.YtenamlckhcfflaaLaw
import Derived.Test.YtenamlckhcfflaaEdfShares
namespace Go.Proofs.Ytenamlckhcfflaa
open Go.ChangeShapes Go.WideShapes Go.ChangeAt Go.RowKit Go.Lib
set_option linter.unusedVariables false

set_option maxRecDepth 100000 in
theorem EdfShares_law : LawWalk 7 Try.f7 := by
  intro H enc W base args ds ps hval hA hlt hsz
  rw [Try.params7] at hA hval
  obtain ⟨v0, vs0, d0, ds0, p0, q0, hargs, rfl, rfl, h0, r0⟩ := trodAll_cons hA
  obtain ⟨v1, vs1, d1, ds1, p1, q1, rfl, rfl, rfl, h1, r1⟩ := trodAll_cons r0
  obtain ⟨rfl, rfl, rfl⟩ := trodAll_nil r1
  obtain rfl : args = #[v0, v1] := by cases args; simp_all
  obtain ⟨ao0, cap0, zs0, rfl, c0, w0, l0, m0, n0⟩ := open_islice2 Try.underlying22 Try.underlying23 (by kernel_rfl) (hval 0 22 v0 rfl rfl) h0
  obtain ⟨a1, rfl, rfl, rfl, w1⟩ := open_int Try.underlying23 (hval 1 23 v1 rfl rfl) h1
  exact EdfShares_any W _ zs0 ⟨ao0, cap0, rfl, c0, n0, l0⟩ (by unfold maxLen at m0; omega) a1 w1

set_option maxRecDepth 100000 in
theorem EdfShares_lifted (os : Os) (started : os.Started) (H : Type) (enc : TypeId × Value → H) :
    ReturnsInHanded {} Try.checked os 7 .any (Rows.edfSharesSpec.pre6 enc Try.prog Try.f7 Rows.edfSharesRow.domain false) (Rows.edfSharesSpec.post enc Try.prog Try.f7 false true false false) :=
  law_lifted (enc := enc) (s := Rows.edfSharesSpec) started (by kernel_rfl) Try.func7 rfl
      (ChangeSpec.witness6 (enc := enc) (C := Try.checked) false ⟨#[], #[.slice none 0 0, .int .u64 0], []⟩ 8 (by kernel_rfl) (by kernel_rfl) (by kernel_rfl) (by kernel_rfl))
      rfl (readable_all (by kernel_rfl))
      (by intro ds h; rw [Try.params7] at h; match ds, h with | [x0, x1], _ => exact ⟨rfl, rfl, rfl⟩)
      EdfShares_law

theorem EdfShares_holds : Rows.EdfSharesSaid :=
  OpenClaim.holds_of_wide 7 Try.f7 rfl rfl rfl rfl rfl rfl rfl ⟨rfl, rfl, rfl, rfl, rfl⟩ rfl rfl rfl rfl rfl (by kernel_rfl) Try.func7 (by kernel_rfl)
    (of_decide_eq_true (by kernel_rfl)) (by unfold Func.isWrapper; first | (rw [if_pos (by decide +kernel)]; kernel_rfl) | (rw [if_neg (by decide +kernel)]; exact ⟨rfl, rfl⟩))
    (fun os started H enc _ => EdfShares_lifted os started H enc)
end Go.Proofs.Ytenamlckhcfflaa
