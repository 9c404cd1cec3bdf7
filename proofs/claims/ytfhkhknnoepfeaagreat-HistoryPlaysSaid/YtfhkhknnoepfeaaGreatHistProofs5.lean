/- The statement HistoryPlays of chapter 11 (history): the law returns true for every input. No condition. -/
import Derived.Test.YtfhkhknnoepfeaaGreatLaw
import Derived.Test.YtfhkhknnoepfeaaGreatHistOpen
import Derived.Test.YtfhkhknnoepfeaaGreatHistPlaysW
namespace Go.Proofs.YtfhkhknnoepfeaaGreat
open Go.ChangeShapes Go.WideShapes Go.ChangeAt Go.RowKit Go.Lib
set_option linter.unusedVariables false

set_option maxRecDepth 100000 in
theorem HistoryPlays_law : LawWalk 3 Tryz.f3 := by
  intro H enc W base args ds ps hval hA hlt hsz
  rw [Tryz.params3] at hA hval
  obtain ⟨v0, vs0, d0, ds0, p0, q0, hargs, rfl, rfl, h0, r0⟩ := trodAll_cons hA
  obtain ⟨v1, vs1, d1, ds1, p1, q1, rfl, rfl, rfl, h1, r1⟩ := trodAll_cons r0
  obtain ⟨v2, vs2, d2, ds2, p2, q2, rfl, rfl, rfl, h2, r2⟩ := trodAll_cons r1
  obtain ⟨v3, vs3, d3, ds3, p3, q3, rfl, rfl, rfl, h3, r3⟩ := trodAll_cons r2
  obtain ⟨v4, vs4, d4, ds4, p4, q4, rfl, rfl, rfl, h4, r4⟩ := trodAll_cons r3
  obtain ⟨rfl, rfl, rfl⟩ := trodAll_nil r4
  obtain rfl : args = #[v0, v1, v2, v3, v4] := by cases args; simp_all
  obtain ⟨a0, rfl, rfl, rfl, w0⟩ := open_int Tryz.underlying3 (hval 0 3 v0 rfl rfl) h0
  obtain ⟨ao1, cap1, pl1, rfl, m1, c1, n1⟩ := open_plan Tryz.underlying22 Tryz.underlying40 Tryz.underlying44 (by kernel_rfl) (by kernel_rfl) (by kernel_rfl) (by kernel_rfl) (hval 1 22 v1 rfl rfl) h1
  obtain ⟨ao2, cap2, zs2, rfl, c2, w2, l2, m2, n2⟩ := open_islice2 Tryz.underlying23 Tryz.underlying3 (by kernel_rfl) (hval 2 23 v2 rfl rfl) h2
  obtain ⟨ao3, cap3, zs3, rfl, c3, w3, l3, m3, n3⟩ := open_islice2 Tryz.underlying23 Tryz.underlying3 (by kernel_rfl) (hval 3 23 v3 rfl rfl) h3
  obtain ⟨a4, rfl, rfl, rfl⟩ := open_bool Tryz.underlying4 (hval 4 4 v4 rfl rfl) h4
  exact HistoryPlays_any W a0 _ pl1 c1 (by unfold maxLen at m1; omega) n1 zs2 _ ⟨ao2, cap2, rfl, c2, n2, l2⟩ w2 (by unfold maxLen at m2; omega) zs3 _ ⟨ao3, cap3, rfl, c3, n3, l3⟩ w3 (by unfold maxLen at m3; omega) a4

set_option maxRecDepth 100000 in
theorem HistoryPlays_lifted (os : Os) (started : os.Started) (H : Type) (enc : TypeId × Value → H) :
    ReturnsInHanded {} Tryz.checked os 3 .any (Rows.historyPlaysSpec.pre6 enc Tryz.prog Tryz.f3 Rows.historyPlaysRow.domain false) (Rows.historyPlaysSpec.post enc Tryz.prog Tryz.f3 false true false false) :=
  law_lifted (enc := enc) (s := Rows.historyPlaysSpec) started (by kernel_rfl) Tryz.func3 rfl
      (ChangeSpec.witness6 (enc := enc) (C := Tryz.checked) false ⟨#[], #[.int .i64 0, .slice none 0 0, .slice none 0 0, .slice none 0 0, .bool false], []⟩ 8 (by kernel_rfl) (by kernel_rfl) (by kernel_rfl) (by kernel_rfl))
      rfl (readable_all (by kernel_rfl))
      (by intro ds h; rw [Tryz.params3] at h; match ds, h with | [x0, x1, x2, x3, x4], _ => exact ⟨rfl, rfl, rfl⟩)
      HistoryPlays_law

theorem HistoryPlays_holds : Rows.HistoryPlaysSaid :=
  OpenClaim.holds_of_wide 3 Tryz.f3 rfl rfl rfl rfl rfl rfl rfl ⟨rfl, rfl, rfl, rfl, rfl⟩ rfl rfl rfl rfl rfl (by kernel_rfl) Tryz.func3 (by kernel_rfl)
    (of_decide_eq_true (by kernel_rfl)) (by unfold Func.isWrapper; first | (rw [if_pos (by decide +kernel)]; kernel_rfl) | (rw [if_neg (by decide +kernel)]; exact ⟨rfl, rfl⟩))
    (fun os started H enc _ => HistoryPlays_lifted os started H enc)
end Go.Proofs.YtfhkhknnoepfeaaGreat
