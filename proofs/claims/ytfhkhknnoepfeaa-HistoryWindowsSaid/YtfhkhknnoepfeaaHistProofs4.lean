/- The statement HistoryWindows of chapter 11 (history): the law returns true for every input. No condition. -/
import Derived.Test.YtfhkhknnoepfeaaLaw
import Derived.Test.YtfhkhknnoepfeaaHistWin
namespace Go.Proofs.Ytfhkhknnoepfeaa
open Go.ChangeShapes Go.WideShapes Go.ChangeAt Go.RowKit Go.Lib
set_option linter.unusedVariables false

set_option maxRecDepth 100000 in
theorem HistoryWindows_law : LawWalk 3 Try.f3 := by
  intro H enc W base args ds ps hval hA hlt hsz
  rw [Try.params3] at hA hval
  obtain ⟨v0, vs0, d0, ds0, p0, q0, hargs, rfl, rfl, h0, r0⟩ := trodAll_cons hA
  obtain ⟨v1, vs1, d1, ds1, p1, q1, rfl, rfl, rfl, h1, r1⟩ := trodAll_cons r0
  obtain ⟨rfl, rfl, rfl⟩ := trodAll_nil r1
  obtain rfl : args = #[v0, v1] := by cases args; simp_all
  obtain ⟨ao0, cap0, zs0, rfl, c0, w0, l0, m0⟩ := open_islice Try.underlying22 Try.underlying26 (by kernel_rfl) (hval 0 22 v0 rfl rfl) h0
  obtain ⟨a1, rfl, rfl, rfl, w1⟩ := open_int Try.underlying3 (hval 1 3 v1 rfl rfl) h1
  exact HistoryWindows_any W ao0 cap0 zs0 c0 w0 l0 m0 a1

set_option maxRecDepth 100000 in
theorem HistoryWindows_lifted (os : Os) (started : os.Started) (H : Type) (enc : TypeId × Value → H) :
    ReturnsInHanded {} Try.checked os 3 .any (Rows.historyWindowsSpec.pre6 enc Try.prog Try.f3 Rows.historyWindowsRow.domain false) (Rows.historyWindowsSpec.post enc Try.prog Try.f3 false true false false) :=
  law_lifted (enc := enc) (s := Rows.historyWindowsSpec) started (by kernel_rfl) Try.func3 rfl
      (ChangeSpec.witness6 (enc := enc) (C := Try.checked) false ⟨#[], #[.slice none 0 0, .int .i64 0], []⟩ 8 (by kernel_rfl) (by kernel_rfl) (by kernel_rfl) (by kernel_rfl))
      rfl (readable_all (by kernel_rfl))
      (by intro ds h; rw [Try.params3] at h; match ds, h with | [x0, x1], _ => exact ⟨rfl, rfl, rfl⟩)
      HistoryWindows_law

theorem HistoryWindows_holds : Rows.HistoryWindowsSaid :=
  OpenClaim.holds_of_wide 3 Try.f3 rfl rfl rfl rfl rfl rfl rfl ⟨rfl, rfl, rfl, rfl, rfl⟩ rfl rfl rfl rfl rfl (by kernel_rfl) Try.func3 (by kernel_rfl)
    (of_decide_eq_true (by kernel_rfl)) (by unfold Func.isWrapper; first | (rw [if_pos (by decide +kernel)]; kernel_rfl) | (rw [if_neg (by decide +kernel)]; exact ⟨rfl, rfl⟩))
    (fun os started H enc _ => HistoryWindows_lifted os started H enc)
end Go.Proofs.Ytfhkhknnoepfeaa
