/- The statement HistoryAborts of chapter 11 (history): the law returns true for every input. No condition. -/
import Derived.Test.YtfhkhknnoepfeaaLaw
import Derived.Test.YtfhkhknnoepfeaaHistLaw2
namespace Go.Proofs.Ytfhkhknnoepfeaa
open Go.ChangeShapes Go.WideShapes Go.ChangeAt Go.RowKit Go.Lib
set_option linter.unusedVariables false

set_option maxRecDepth 100000 in
theorem HistoryAborts_law : LawWalk 6 Try.f6 := by
  intro H enc W base args ds ps hval hA hlt hsz
  rw [Try.params6] at hA hval
  obtain ⟨v0, vs0, d0, ds0, p0, q0, hargs, rfl, rfl, h0, r0⟩ := trodAll_cons hA
  obtain ⟨v1, vs1, d1, ds1, p1, q1, rfl, rfl, rfl, h1, r1⟩ := trodAll_cons r0
  obtain ⟨v2, vs2, d2, ds2, p2, q2, rfl, rfl, rfl, h2, r2⟩ := trodAll_cons r1
  obtain ⟨rfl, rfl, rfl⟩ := trodAll_nil r2
  obtain rfl : args = #[v0, v1, v2] := by cases args; simp_all
  obtain ⟨a0, rfl, rfl, rfl, w0⟩ := open_int Try.underlying3 (hval 0 3 v0 rfl rfl) h0
  obtain ⟨ao1, cap1, zs1, rfl, c1, w1, l1, m1, n1⟩ := open_islice2 Try.underlying24 Try.underlying3 (by kernel_rfl) (hval 1 24 v1 rfl rfl) h1
  obtain ⟨ao2, cap2, zs2, rfl, c2, w2, l2, m2, n2⟩ := open_islice2 Try.underlying24 Try.underlying3 (by kernel_rfl) (hval 2 24 v2 rfl rfl) h2
  exact HistoryAborts_any W a0 zs1 _ ⟨ao1, cap1, rfl, c1, n1, l1⟩ w1 (by unfold maxLen at m1; omega) zs2 _ ⟨ao2, cap2, rfl, c2, n2, l2⟩ w2 (by unfold maxLen at m2; omega)

set_option maxRecDepth 100000 in
theorem HistoryAborts_lifted (os : Os) (started : os.Started) (H : Type) (enc : TypeId × Value → H) :
    ReturnsInHanded {} Try.checked os 6 .any (Rows.historyAbortsSpec.pre6 enc Try.prog Try.f6 Rows.historyAbortsRow.domain false) (Rows.historyAbortsSpec.post enc Try.prog Try.f6 false true false false) :=
  law_lifted (enc := enc) (s := Rows.historyAbortsSpec) started (by kernel_rfl) Try.func6 rfl
      (ChangeSpec.witness6 (enc := enc) (C := Try.checked) false ⟨#[], #[.int .i64 0, .slice none 0 0, .slice none 0 0], []⟩ 8 (by kernel_rfl) (by kernel_rfl) (by kernel_rfl) (by kernel_rfl))
      rfl (readable_all (by kernel_rfl))
      (by intro ds h; rw [Try.params6] at h; match ds, h with | [x0, x1, x2], _ => exact ⟨rfl, rfl, rfl⟩)
      HistoryAborts_law

theorem HistoryAborts_holds : Rows.HistoryAbortsSaid :=
  OpenClaim.holds_of_wide 6 Try.f6 rfl rfl rfl rfl rfl rfl rfl ⟨rfl, rfl, rfl, rfl, rfl⟩ rfl rfl rfl rfl rfl (by kernel_rfl) Try.func6 (by kernel_rfl)
    (of_decide_eq_true (by kernel_rfl)) (by unfold Func.isWrapper; first | (rw [if_pos (by decide +kernel)]; kernel_rfl) | (rw [if_neg (by decide +kernel)]; exact ⟨rfl, rfl⟩))
    (fun os started H enc _ => HistoryAborts_lifted os started H enc)
end Go.Proofs.Ytfhkhknnoepfeaa
