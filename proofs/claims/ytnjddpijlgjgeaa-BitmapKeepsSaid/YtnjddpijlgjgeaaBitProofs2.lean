/- The statement BitmapKeeps of chapter 12 (bitmap): the law returns true for every input. No condition. -/
import Derived.Test.YtnjddpijlgjgeaaLaw
import Derived.Test.YtnjddpijlgjgeaaBitKeeps
namespace Go.Proofs.Ytnjddpijlgjgeaa
open Go.ChangeShapes Go.WideShapes Go.ChangeAt Go.RowKit Go.Lib
set_option linter.unusedVariables false

set_option maxRecDepth 100000 in
theorem BitmapKeeps_law : LawWalk 9 Try.f9 := by
  intro H enc W base args ds ps hval hA hlt hsz
  rw [Try.params9] at hA hval
  obtain ⟨v0, vs0, d0, ds0, p0, q0, hargs, rfl, rfl, h0, r0⟩ := trodAll_cons hA
  obtain ⟨v1, vs1, d1, ds1, p1, q1, rfl, rfl, rfl, h1, r1⟩ := trodAll_cons r0
  obtain ⟨v2, vs2, d2, ds2, p2, q2, rfl, rfl, rfl, h2, r2⟩ := trodAll_cons r1
  obtain ⟨rfl, rfl, rfl⟩ := trodAll_nil r2
  obtain rfl : args = #[v0, v1, v2] := by cases args; simp_all
  obtain ⟨a0, rfl, rfl, rfl, w0⟩ := open_int Try.underlying5 (hval 0 5 v0 rfl rfl) h0
  obtain ⟨a1, rfl, rfl, rfl, w1⟩ := open_int Try.underlying5 (hval 1 5 v1 rfl rfl) h1
  obtain ⟨ao2, cap2, zs2, rfl, c2, w2, l2, m2⟩ := open_islice Try.underlying77 Try.underlying5 (by kernel_rfl) (hval 2 77 v2 rfl rfl) h2
  exact BitmapKeeps_any W a0 w0 a1 w1 ao2 cap2 zs2 c2 w2 l2 m2

set_option maxRecDepth 100000 in
theorem BitmapKeeps_lifted (os : Os) (started : os.Started) (H : Type) (enc : TypeId × Value → H) :
    ReturnsInHanded {} Try.checked os 9 .any (Rows.bitmapKeepsSpec.pre6 enc Try.prog Try.f9 Rows.bitmapKeepsRow.domain false) (Rows.bitmapKeepsSpec.post enc Try.prog Try.f9 false true false false) :=
  law_lifted (enc := enc) (s := Rows.bitmapKeepsSpec) started (by kernel_rfl) Try.func9 rfl
      (ChangeSpec.witness6 (enc := enc) (C := Try.checked) false ⟨#[], #[.int .u8 0, .int .u8 0, .slice none 0 0], []⟩ 8 (by kernel_rfl) (by kernel_rfl) (by kernel_rfl) (by kernel_rfl))
      rfl (readable_all (by kernel_rfl))
      (by intro ds h; rw [Try.params9] at h; match ds, h with | [x0, x1, x2], _ => exact ⟨rfl, rfl, rfl⟩)
      BitmapKeeps_law

theorem BitmapKeeps_holds : Rows.BitmapKeepsSaid :=
  OpenClaim.holds_of_wide 9 Try.f9 rfl rfl rfl rfl rfl rfl rfl ⟨rfl, rfl, rfl, rfl, rfl⟩ rfl rfl rfl rfl rfl (by kernel_rfl) Try.func9 (by kernel_rfl)
    (of_decide_eq_true (by kernel_rfl)) (by unfold Func.isWrapper; first | (rw [if_pos (by decide +kernel)]; kernel_rfl) | (rw [if_neg (by decide +kernel)]; exact ⟨rfl, rfl⟩))
    (fun os started H enc _ => BitmapKeeps_lifted os started H enc)
end Go.Proofs.Ytnjddpijlgjgeaa
