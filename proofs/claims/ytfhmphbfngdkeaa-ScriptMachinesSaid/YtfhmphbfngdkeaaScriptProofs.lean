/- The statements ScriptDecodes and ScriptMachines of chapter 4 (script): each law returns true for every input. No condition. -/
import Derived.Test.YtfhmphbfngdkeaaLaw
import Derived.Test.YtfhmphbfngdkeaaScriptLaws
import Derived.Lib.SmallJoins
namespace Go.Proofs.Ytfhmphbfngdkeaa
open Go.ChangeShapes Go.WideShapes Go.ChangeAt Go.RowKit Go.Lib
set_option linter.unusedVariables false

theorem ScriptDecodes_law : LawWalk 3 Try.f3 := by
  intro H enc W base args ds ps hval hA hlt hsz
  rw [Try.params3] at hA hval
  obtain ⟨v0, vs0, d0, ds0, p0, q0, hargs, rfl, rfl, h0, r0⟩ := trodAll_cons hA
  obtain ⟨rfl, rfl, rfl⟩ := trodAll_nil r0
  obtain rfl : args = #[v0] := by cases args; simp_all
  obtain ⟨ao0, cap0, zs0, rfl, c0, w0, l0, m0, n0⟩ := open_islice2 Try.underlying22 Try.underlying5 (by kernel_rfl) (hval 0 22 v0 rfl rfl) h0
  exact ScriptDecodes_any W zs0 _ ⟨ao0, cap0, rfl, c0, n0, l0⟩ w0 (by unfold maxLen at m0; omega)

set_option maxRecDepth 100000 in
theorem ScriptDecodes_lifted (os : Os) (started : os.Started) (H : Type) (enc : TypeId × Value → H) :
    ReturnsInHanded {} Try.checked os 3 .any (Rows.scriptDecodesSpec.pre6 enc Try.prog Try.f3 Rows.scriptDecodesRow.domain false) (Rows.scriptDecodesSpec.post enc Try.prog Try.f3 false true false false) :=
  law_lifted (enc := enc) (s := Rows.scriptDecodesSpec) started (by kernel_rfl) Try.func3 rfl
      (ChangeSpec.witness6 (enc := enc) (C := Try.checked) false ⟨#[], #[.slice none 0 0], []⟩ 8 (by kernel_rfl) (by kernel_rfl) (by kernel_rfl) (by kernel_rfl))
      rfl (readable_all (by kernel_rfl))
      (by intro ds h; rw [Try.params3] at h; match ds, h with | [x0], _ => exact ⟨rfl, rfl, rfl⟩)
      ScriptDecodes_law

theorem ScriptDecodes_holds : Rows.ScriptDecodesSaid :=
  OpenClaim.holds_of_wide 3 Try.f3 rfl rfl rfl rfl rfl rfl rfl ⟨rfl, rfl, rfl, rfl, rfl⟩ rfl rfl rfl rfl rfl (by kernel_rfl) Try.func3 (by kernel_rfl)
    (of_decide_eq_true (by kernel_rfl)) (by unfold Func.isWrapper; first | (rw [if_pos (by decide +kernel)]; kernel_rfl) | (rw [if_neg (by decide +kernel)]; exact ⟨rfl, rfl⟩))
    (fun os started H enc _ => ScriptDecodes_lifted os started H enc)


theorem ScriptMachines_law : LawWalk 6 Try.f6 := by
  intro H enc W base args ds ps hval hA hlt hsz
  rw [Try.params6] at hA hval
  obtain ⟨v0, vs0, d0, ds0, p0, q0, hargs, rfl, rfl, h0, r0⟩ := trodAll_cons hA
  obtain ⟨v1, vs1, d1, ds1, p1, q1, rfl, rfl, rfl, h1, r1⟩ := trodAll_cons r0
  obtain ⟨v2, vs2, d2, ds2, p2, q2, rfl, rfl, rfl, h2, r2⟩ := trodAll_cons r1
  obtain ⟨rfl, rfl, rfl⟩ := trodAll_nil r2
  obtain rfl : args = #[v0, v1, v2] := by cases args; simp_all
  obtain ⟨e0a, e0b, y0a, y0b, nn0, rfl, hd0, hp0, t0a, t0b⟩ := Go.Joins.open_agg2 Try.underlying35 (by kernel_rfl) (by kernel_rfl) (hval 0 35 v0 rfl rfl) h0
  obtain ⟨a0, ha0, _, _⟩ := DataW.trod_int Try.underlying3 t0a
  obtain ⟨b0, hb0, _, _⟩ := DataW.trod_int Try.underlying3 t0b
  obtain rfl : e0a = .int .i64 a0 := by simpa using ha0
  obtain rfl : e0b = .int .i64 b0 := by simpa using hb0
  obtain ⟨a1, rfl, rfl, rfl, w1⟩ := open_int Try.underlying3 (hval 1 3 v1 rfl rfl) h1
  obtain ⟨a2, rfl, rfl, rfl⟩ := open_bool Try.underlying4 (hval 2 4 v2 rfl rfl) h2
  exact ScriptMachines_any W a0 b0 a1 (wf_i64 w1).2 a2

set_option maxRecDepth 100000 in
theorem ScriptMachines_lifted (os : Os) (started : os.Started) (H : Type) (enc : TypeId × Value → H) :
    ReturnsInHanded {} Try.checked os 6 .any (Rows.scriptMachinesSpec.pre6 enc Try.prog Try.f6 Rows.scriptMachinesRow.domain false) (Rows.scriptMachinesSpec.post enc Try.prog Try.f6 false true false false) :=
  law_lifted (enc := enc) (s := Rows.scriptMachinesSpec) started (by kernel_rfl) Try.func6 rfl
      (ChangeSpec.witness6 (enc := enc) (C := Try.checked) false ⟨#[], #[.agg #[.int .i64 0, .int .i64 0], .int .i64 0, .bool false], []⟩ 8 (by kernel_rfl) (by kernel_rfl) (by kernel_rfl) (by kernel_rfl))
      rfl (readable_all (by kernel_rfl))
      (by intro ds h; rw [Try.params6] at h; match ds, h with | [x0, x1, x2], _ => exact ⟨rfl, rfl, rfl⟩)
      ScriptMachines_law

theorem ScriptMachines_holds : Rows.ScriptMachinesSaid :=
  OpenClaim.holds_of_wide 6 Try.f6 rfl rfl rfl rfl rfl rfl rfl ⟨rfl, rfl, rfl, rfl, rfl⟩ rfl rfl rfl rfl rfl (by kernel_rfl) Try.func6 (by kernel_rfl)
    (of_decide_eq_true (by kernel_rfl)) (by unfold Func.isWrapper; first | (rw [if_pos (by decide +kernel)]; kernel_rfl) | (rw [if_neg (by decide +kernel)]; exact ⟨rfl, rfl⟩))
    (fun os started H enc _ => ScriptMachines_lifted os started H enc)


end Go.Proofs.Ytfhmphbfngdkeaa
