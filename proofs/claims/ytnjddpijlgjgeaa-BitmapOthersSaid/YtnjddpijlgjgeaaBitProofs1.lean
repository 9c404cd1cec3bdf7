/- The statement BitmapOthers of chapter 12 (bitmap): the law returns true for every input. No condition. -/
import Derived.Test.YtnjddpijlgjgeaaLaw
import Derived.Test.YtnjddpijlgjgeaaBitOthers
namespace Go.Proofs.Ytnjddpijlgjgeaa
open Go.ChangeShapes Go.WideShapes Go.ChangeAt Go.RowKit Go.Lib
set_option linter.unusedVariables false

set_option maxRecDepth 100000 in
theorem BitmapOthers_law : LawWalk 8 Try.f8 := by
  intro H enc W base args ds ps hval hA hlt hsz
  rw [Try.params8] at hA hval
  obtain ⟨v0, vs0, d0, ds0, p0, q0, hargs, rfl, rfl, h0, r0⟩ := trodAll_cons hA
  obtain ⟨v1, vs1, d1, ds1, p1, q1, rfl, rfl, rfl, h1, r1⟩ := trodAll_cons r0
  obtain ⟨v2, vs2, d2, ds2, p2, q2, rfl, rfl, rfl, h2, r2⟩ := trodAll_cons r1
  obtain ⟨v3, vs3, d3, ds3, p3, q3, rfl, rfl, rfl, h3, r3⟩ := trodAll_cons r2
  obtain ⟨v4, vs4, d4, ds4, p4, q4, rfl, rfl, rfl, h4, r4⟩ := trodAll_cons r3
  obtain ⟨rfl, rfl, rfl⟩ := trodAll_nil r4
  obtain rfl : args = #[v0, v1, v2, v3, v4] := by cases args; simp_all
  obtain ⟨a0, rfl, rfl, rfl, w0⟩ := open_int Try.underlying22 (hval 0 22 v0 rfl rfl) h0
  obtain ⟨a1, rfl, rfl, rfl, w1⟩ := open_int Try.underlying22 (hval 1 22 v1 rfl rfl) h1
  obtain ⟨a2, rfl, rfl, rfl, w2⟩ := open_int Try.underlying22 (hval 2 22 v2 rfl rfl) h2
  obtain ⟨a3, rfl, rfl, rfl, w3⟩ := open_int Try.underlying3 (hval 3 3 v3 rfl rfl) h3
  obtain ⟨a4, rfl, rfl, rfl⟩ := open_bool Try.underlying4 (hval 4 4 v4 rfl rfl) h4
  exact BitmapOthers_any W a0 w0 a1 w1 a2 w2 a3 w3 a4

set_option maxRecDepth 100000 in
theorem BitmapOthers_lifted (os : Os) (started : os.Started) (H : Type) (enc : TypeId × Value → H) :
    ReturnsInHanded {} Try.checked os 8 .any (Rows.bitmapOthersSpec.pre6 enc Try.prog Try.f8 Rows.bitmapOthersRow.domain false) (Rows.bitmapOthersSpec.post enc Try.prog Try.f8 false true false false) :=
  law_lifted (enc := enc) (s := Rows.bitmapOthersSpec) started (by kernel_rfl) Try.func8 rfl
      (ChangeSpec.witness6 (enc := enc) (C := Try.checked) false ⟨#[], #[.int .u64 0, .int .u64 0, .int .u64 0, .int .i64 0, .bool false], []⟩ 8 (by kernel_rfl) (by kernel_rfl) (by kernel_rfl) (by kernel_rfl))
      rfl (readable_all (by kernel_rfl))
      (by intro ds h; rw [Try.params8] at h; match ds, h with | [x0, x1, x2, x3, x4], _ => exact ⟨rfl, rfl, rfl⟩)
      BitmapOthers_law

theorem BitmapOthers_holds : Rows.BitmapOthersSaid :=
  OpenClaim.holds_of_wide 8 Try.f8 rfl rfl rfl rfl rfl rfl rfl ⟨rfl, rfl, rfl, rfl, rfl⟩ rfl rfl rfl rfl rfl (by kernel_rfl) Try.func8 (by kernel_rfl)
    (of_decide_eq_true (by kernel_rfl)) (by unfold Func.isWrapper; first | (rw [if_pos (by decide +kernel)]; kernel_rfl) | (rw [if_neg (by decide +kernel)]; exact ⟨rfl, rfl⟩))
    (fun os started H enc _ => BitmapOthers_lifted os started H enc)
end Go.Proofs.Ytnjddpijlgjgeaa
