/- The statements ScriptEncodes and ScriptRound of chapter 4 (script): each law returns true for every input. No condition. -/
import Derived.Test.YtfhmphbfngdkeaaLaw
import Derived.Test.YtfhmphbfngdkeaaScriptEncLaws
import Derived.Test.YtfhmphbfngdkeaaScriptArgs
namespace Go.Proofs.Ytfhmphbfngdkeaa
open Go.ChangeShapes Go.WideShapes Go.ChangeAt Go.RowKit Go.Lib
set_option linter.unusedVariables false

theorem ScriptEncodes_law : LawWalk 7 Try.f7 := by
  intro H enc W base args ds ps hval hA hlt hsz
  rw [Try.params7] at hA hval
  obtain ⟨v0, vs0, d0, ds0, p0, q0, hargs, rfl, rfl, h0, r0⟩ := trodAll_cons hA
  obtain ⟨rfl, rfl, rfl⟩ := trodAll_nil r0
  obtain rfl : args = #[v0] := by cases args; simp_all
  obtain ⟨ao0, cap0, rows0, rfl, c0, w0, l0, m0, n0⟩ := open_sslice2 (ks := [.i64, .i64]) Try.underlying25 Try.underlying35 (by kernel_rfl) (by kernel_rfl) (by kernel_rfl) (by decide) (hval 0 25 v0 rfl rfl) h0
  exact ScriptEncodes_any W _ (ents rows0) (en_of_rows c0 n0 l0) (by rw [ents_length]; unfold maxLen at m0; omega)

set_option maxRecDepth 100000 in
theorem ScriptEncodes_lifted (os : Os) (started : os.Started) (H : Type) (enc : TypeId × Value → H) :
    ReturnsInHanded {} Try.checked os 7 .any (Rows.scriptEncodesSpec.pre6 enc Try.prog Try.f7 Rows.scriptEncodesRow.domain false) (Rows.scriptEncodesSpec.post enc Try.prog Try.f7 false true false false) :=
  law_lifted (enc := enc) (s := Rows.scriptEncodesSpec) started (by kernel_rfl) Try.func7 rfl
      (ChangeSpec.witness6 (enc := enc) (C := Try.checked) false ⟨#[], #[.slice none 0 0], []⟩ 8 (by kernel_rfl) (by kernel_rfl) (by kernel_rfl) (by kernel_rfl))
      rfl (readable_all (by kernel_rfl))
      (by intro ds h; rw [Try.params7] at h; match ds, h with | [x0], _ => exact ⟨rfl, rfl, rfl⟩)
      ScriptEncodes_law

theorem ScriptEncodes_holds : Rows.ScriptEncodesSaid :=
  OpenClaim.holds_of_wide 7 Try.f7 rfl rfl rfl rfl rfl rfl rfl ⟨rfl, rfl, rfl, rfl, rfl⟩ rfl rfl rfl rfl rfl (by kernel_rfl) Try.func7 (by kernel_rfl)
    (of_decide_eq_true (by kernel_rfl)) (by unfold Func.isWrapper; first | (rw [if_pos (by decide +kernel)]; kernel_rfl) | (rw [if_neg (by decide +kernel)]; exact ⟨rfl, rfl⟩))
    (fun os started H enc _ => ScriptEncodes_lifted os started H enc)


theorem ScriptRound_law : LawWalk 8 Try.f8 := by
  intro H enc W base args ds ps hval hA hlt hsz
  rw [Try.params8] at hA hval
  obtain ⟨v0, vs0, d0, ds0, p0, q0, hargs, rfl, rfl, h0, r0⟩ := trodAll_cons hA
  obtain ⟨v1, vs1, d1, ds1, p1, q1, rfl, rfl, rfl, h1, r1⟩ := trodAll_cons r0
  obtain ⟨rfl, rfl, rfl⟩ := trodAll_nil r1
  obtain rfl : args = #[v0, v1] := by cases args; simp_all
  obtain ⟨ao0, cap0, zs0, rfl, c0, w0, l0, m0, n0⟩ := open_islice2 Try.underlying22 Try.underlying5 (by kernel_rfl) (hval 0 22 v0 rfl rfl) h0
  obtain ⟨ao1, cap1, rows1, rfl, c1, w1, l1, m1, n1⟩ := open_sslice2 (ks := [.i64, .i64]) Try.underlying25 Try.underlying35 (by kernel_rfl) (by kernel_rfl) (by kernel_rfl) (by decide) (hval 1 25 v1 rfl rfl) h1
  exact ScriptRound_any W zs0 _ ⟨ao0, cap0, rfl, c0, n0, l0⟩ w0 (by unfold maxLen at m0; omega) _ (ents rows1) (en_of_rows c1 n1 l1) (by rw [ents_length]; unfold maxLen at m1; omega)

set_option maxRecDepth 100000 in
theorem ScriptRound_lifted (os : Os) (started : os.Started) (H : Type) (enc : TypeId × Value → H) :
    ReturnsInHanded {} Try.checked os 8 .any (Rows.scriptRoundSpec.pre6 enc Try.prog Try.f8 Rows.scriptRoundRow.domain false) (Rows.scriptRoundSpec.post enc Try.prog Try.f8 false true false false) :=
  law_lifted (enc := enc) (s := Rows.scriptRoundSpec) started (by kernel_rfl) Try.func8 rfl
      (ChangeSpec.witness6 (enc := enc) (C := Try.checked) false ⟨#[], #[.slice none 0 0, .slice none 0 0], []⟩ 8 (by kernel_rfl) (by kernel_rfl) (by kernel_rfl) (by kernel_rfl))
      rfl (readable_all (by kernel_rfl))
      (by intro ds h; rw [Try.params8] at h; match ds, h with | [x0, x1], _ => exact ⟨rfl, rfl, rfl⟩)
      ScriptRound_law

theorem ScriptRound_holds : Rows.ScriptRoundSaid :=
  OpenClaim.holds_of_wide 8 Try.f8 rfl rfl rfl rfl rfl rfl rfl ⟨rfl, rfl, rfl, rfl, rfl⟩ rfl rfl rfl rfl rfl (by kernel_rfl) Try.func8 (by kernel_rfl)
    (of_decide_eq_true (by kernel_rfl)) (by unfold Func.isWrapper; first | (rw [if_pos (by decide +kernel)]; kernel_rfl) | (rw [if_neg (by decide +kernel)]; exact ⟨rfl, rfl⟩))
    (fun os started H enc _ => ScriptRound_lifted os started H enc)


end Go.Proofs.Ytfhmphbfngdkeaa
