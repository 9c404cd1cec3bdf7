/- The statement ScriptFair of chapter 4 (script): the law returns true for every input. No condition. -/
import Derived.Test.YtfhmphbfngdkeaaLaw
import Derived.Test.YtfhmphbfngdkeaaScriptFairLaw
import Derived.Test.YtfhmphbfngdkeaaScriptArgs
namespace Go.Proofs.Ytfhmphbfngdkeaa
open Go.ChangeShapes Go.WideShapes Go.ChangeAt Go.RowKit Go.Lib
set_option linter.unusedVariables false

theorem ScriptFair_law : LawWalk 9 Try.f9 := by
  intro H enc W base args ds ps hval hA hlt hsz
  rw [Try.params9] at hA hval
  obtain ⟨v0, vs0, d0, ds0, p0, q0, hargs, rfl, rfl, h0, r0⟩ := trodAll_cons hA
  obtain ⟨v1, vs1, d1, ds1, p1, q1, rfl, rfl, rfl, h1, r1⟩ := trodAll_cons r0
  obtain ⟨v2, vs2, d2, ds2, p2, q2, rfl, rfl, rfl, h2, r2⟩ := trodAll_cons r1
  obtain ⟨v3, vs3, d3, ds3, p3, q3, rfl, rfl, rfl, h3, r3⟩ := trodAll_cons r2
  obtain ⟨v4, vs4, d4, ds4, p4, q4, rfl, rfl, rfl, h4, r4⟩ := trodAll_cons r3
  obtain ⟨v5, vs5, d5, ds5, p5, q5, rfl, rfl, rfl, h5, r5⟩ := trodAll_cons r4
  obtain ⟨rfl, rfl, rfl⟩ := trodAll_nil r5
  obtain rfl : args = #[v0, v1, v2, v3, v4, v5] := by cases args; simp_all
  obtain ⟨ao0, cap0, zs0, rfl, c0, w0, l0, m0, n0⟩ := open_islice2 Try.underlying22 Try.underlying5 (by kernel_rfl) (hval 0 22 v0 rfl rfl) h0
  obtain ⟨ao1, cap1, rows1, rfl, c1, w1, l1, m1, n1⟩ := open_sslice2 (ks := [.i64, .i64]) Try.underlying25 Try.underlying35 (by kernel_rfl) (by kernel_rfl) (by kernel_rfl) (by decide) (hval 1 25 v1 rfl rfl) h1
  obtain ⟨ao2, cap2, zs2, rfl, c2, w2, l2, m2, n2⟩ := open_islice2 Try.underlying28 Try.underlying3 (by kernel_rfl) (hval 2 28 v2 rfl rfl) h2
  obtain ⟨a3, rfl, rfl, rfl, w3⟩ := open_int Try.underlying3 (hval 3 3 v3 rfl rfl) h3
  obtain ⟨a4, rfl, rfl, rfl, w4⟩ := open_int Try.underlying3 (hval 4 3 v4 rfl rfl) h4
  obtain ⟨a5, rfl, rfl, rfl⟩ := open_bool Try.underlying4 (hval 5 4 v5 rfl rfl) h5
  exact ScriptFair_any W zs0 _ ⟨ao0, cap0, rfl, c0, n0, l0⟩ w0 (by unfold maxLen at m0; omega) ao1 cap1 _ (ents rows1) (en_of_rows c1 n1 l1) (by unfold maxLen at m1; omega) zs2 _ ⟨ao2, cap2, rfl, c2, n2, l2⟩ w2 (by unfold maxLen at m2; omega) a3 (wf_i64 w3).2 a4 (wf_i64 w4).2 a5

set_option maxRecDepth 100000 in
theorem ScriptFair_lifted (os : Os) (started : os.Started) (H : Type) (enc : TypeId × Value → H) :
    ReturnsInHanded {} Try.checked os 9 .any (Rows.scriptFairSpec.pre6 enc Try.prog Try.f9 Rows.scriptFairRow.domain false) (Rows.scriptFairSpec.post enc Try.prog Try.f9 false true false false) :=
  law_lifted (enc := enc) (s := Rows.scriptFairSpec) started (by kernel_rfl) Try.func9 rfl
      (ChangeSpec.witness6 (enc := enc) (C := Try.checked) false ⟨#[], #[.slice none 0 0, .slice none 0 0, .slice none 0 0, .int .i64 0, .int .i64 0, .bool false], []⟩ 8 (by kernel_rfl) (by kernel_rfl) (by kernel_rfl) (by kernel_rfl))
      rfl (readable_all (by kernel_rfl))
      (by intro ds h; rw [Try.params9] at h; match ds, h with | [x0, x1, x2, x3, x4, x5], _ => exact ⟨rfl, rfl, rfl⟩)
      ScriptFair_law

theorem ScriptFair_holds : Rows.ScriptFairSaid :=
  OpenClaim.holds_of_wide 9 Try.f9 rfl rfl rfl rfl rfl rfl rfl ⟨rfl, rfl, rfl, rfl, rfl⟩ rfl rfl rfl rfl rfl (by kernel_rfl) Try.func9 (by kernel_rfl)
    (of_decide_eq_true (by kernel_rfl)) (by unfold Func.isWrapper; first | (rw [if_pos (by decide +kernel)]; kernel_rfl) | (rw [if_neg (by decide +kernel)]; exact ⟨rfl, rfl⟩))
    (fun os started H enc _ => ScriptFair_lifted os started H enc)


end Go.Proofs.Ytfhmphbfngdkeaa
