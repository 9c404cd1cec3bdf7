/- The statement ScriptMore of chapter 4 (script): the law returns true for every input. No condition. -/
import Derived.Test.YtfhmphbfngdkeaaLaw
import Derived.Test.YtfhmphbfngdkeaaScriptMore
namespace Go.Proofs.Ytfhmphbfngdkeaa
open Go.ChangeShapes Go.WideShapes Go.ChangeAt Go.RowKit Go.Lib
set_option linter.unusedVariables false

theorem ScriptMore_law : LawWalk 5 Try.f5 := by
  intro H enc W base args ds ps hval hA hlt hsz
  rw [Try.params5] at hA hval
  obtain ⟨v0, vs0, d0, ds0, p0, q0, hargs, rfl, rfl, h0, r0⟩ := trodAll_cons hA
  obtain ⟨v1, vs1, d1, ds1, p1, q1, rfl, rfl, rfl, h1, r1⟩ := trodAll_cons r0
  obtain ⟨v2, vs2, d2, ds2, p2, q2, rfl, rfl, rfl, h2, r2⟩ := trodAll_cons r1
  obtain ⟨v3, vs3, d3, ds3, p3, q3, rfl, rfl, rfl, h3, r3⟩ := trodAll_cons r2
  obtain ⟨rfl, rfl, rfl⟩ := trodAll_nil r3
  obtain rfl : args = #[v0, v1, v2, v3] := by cases args; simp_all
  obtain ⟨ao0, cap0, zs0, rfl, c0, w0, l0, m0, n0⟩ := open_islice2 Try.underlying22 Try.underlying5 (by kernel_rfl) (hval 0 22 v0 rfl rfl) h0
  obtain ⟨ao1, cap1, zs1, rfl, c1, w1, l1, m1, n1⟩ := open_islice2 Try.underlying22 Try.underlying5 (by kernel_rfl) (hval 1 22 v1 rfl rfl) h1
  obtain ⟨a2, rfl, rfl, rfl, w2⟩ := open_int Try.underlying3 (hval 2 3 v2 rfl rfl) h2
  obtain ⟨ao3, cap3, zs3, rfl, c3, w3, l3, m3, n3⟩ := open_islice2 Try.underlying28 Try.underlying3 (by kernel_rfl) (hval 3 28 v3 rfl rfl) h3
  exact ScriptMore_any W zs0 _ ⟨ao0, cap0, rfl, c0, n0, l0⟩ w0 (by unfold maxLen at m0; omega) zs1 _ ⟨ao1, cap1, rfl, c1, n1, l1⟩ w1 (by unfold maxLen at m1; omega) a2 zs3 _ ⟨ao3, cap3, rfl, c3, n3, l3⟩ w3 (by unfold maxLen at m3; omega)

set_option maxRecDepth 100000 in
theorem ScriptMore_lifted (os : Os) (started : os.Started) (H : Type) (enc : TypeId × Value → H) :
    ReturnsInHanded {} Try.checked os 5 .any (Rows.scriptMoreSpec.pre6 enc Try.prog Try.f5 Rows.scriptMoreRow.domain false) (Rows.scriptMoreSpec.post enc Try.prog Try.f5 false true false false) :=
  law_lifted (enc := enc) (s := Rows.scriptMoreSpec) started (by kernel_rfl) Try.func5 rfl
      (ChangeSpec.witness6 (enc := enc) (C := Try.checked) false ⟨#[], #[.slice none 0 0, .slice none 0 0, .int .i64 0, .slice none 0 0], []⟩ 8 (by kernel_rfl) (by kernel_rfl) (by kernel_rfl) (by kernel_rfl))
      rfl (readable_all (by kernel_rfl))
      (by intro ds h; rw [Try.params5] at h; match ds, h with | [x0, x1, x2, x3], _ => exact ⟨rfl, rfl, rfl⟩)
      ScriptMore_law

theorem ScriptMore_holds : Rows.ScriptMoreSaid :=
  OpenClaim.holds_of_wide 5 Try.f5 rfl rfl rfl rfl rfl rfl rfl ⟨rfl, rfl, rfl, rfl, rfl⟩ rfl rfl rfl rfl rfl (by kernel_rfl) Try.func5 (by kernel_rfl)
    (of_decide_eq_true (by kernel_rfl)) (by unfold Func.isWrapper; first | (rw [if_pos (by decide +kernel)]; kernel_rfl) | (rw [if_neg (by decide +kernel)]; exact ⟨rfl, rfl⟩))
    (fun os started H enc _ => ScriptMore_lifted os started H enc)


end Go.Proofs.Ytfhmphbfngdkeaa
