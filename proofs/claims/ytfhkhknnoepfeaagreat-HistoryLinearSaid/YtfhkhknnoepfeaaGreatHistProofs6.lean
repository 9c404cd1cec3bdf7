/- The statement HistoryLinear of chapter 11 (history): the law returns true for every input. No condition. -/
import Derived.Test.YtfhkhknnoepfeaaGreatLaw
import Derived.Test.YtfhkhknnoepfeaaGreatHistOpen
import Derived.Test.YtfhkhknnoepfeaaGreatMgI
namespace Go.Proofs.YtfhkhknnoepfeaaGreat
open Go.ChangeShapes Go.WideShapes Go.ChangeAt Go.RowKit Go.Lib
set_option linter.unusedVariables false

set_option maxRecDepth 100000 in
theorem HistoryLinear_law : LawWalk 4 Tryz.f4 := by
  intro H enc W base args ds ps hval hA hlt hsz
  rw [Tryz.params4] at hA hval
  obtain ⟨v0, vs0, d0, ds0, p0, q0, hargs, rfl, rfl, h0, r0⟩ := trodAll_cons hA
  obtain ⟨v1, vs1, d1, ds1, p1, q1, rfl, rfl, rfl, h1, r1⟩ := trodAll_cons r0
  obtain ⟨v2, vs2, d2, ds2, p2, q2, rfl, rfl, rfl, h2, r2⟩ := trodAll_cons r1
  obtain ⟨v3, vs3, d3, ds3, p3, q3, rfl, rfl, rfl, h3, r3⟩ := trodAll_cons r2
  obtain ⟨v4, vs4, d4, ds4, p4, q4, rfl, rfl, rfl, h4, r4⟩ := trodAll_cons r3
  obtain ⟨v5, vs5, d5, ds5, p5, q5, rfl, rfl, rfl, h5, r5⟩ := trodAll_cons r4
  obtain ⟨rfl, rfl, rfl⟩ := trodAll_nil r5
  obtain rfl : args = #[v0, v1, v2, v3, v4, v5] := by cases args; simp_all
  obtain ⟨ao0, cap0, rows0, rfl, c0, w0, l0, m0⟩ := open_sslice (ks := [.i64, .i64, .i64, .i64, .i64, .i64]) Tryz.underlying30 Tryz.underlying36 (by kernel_rfl) (by kernel_rfl) (by kernel_rfl) (by decide) (hval 0 30 v0 rfl rfl) h0
  obtain ⟨a1, rfl, rfl, rfl, w1⟩ := open_int Tryz.underlying3 (hval 1 3 v1 rfl rfl) h1
  obtain ⟨ao2, cap2, zs2, rfl, c2, w2, l2, m2, n2⟩ := open_islice2 Tryz.underlying23 Tryz.underlying3 (by kernel_rfl) (hval 2 23 v2 rfl rfl) h2
  obtain ⟨ao3, cap3, zs3, rfl, c3, w3, l3, m3, n3⟩ := open_islice2 Tryz.underlying23 Tryz.underlying3 (by kernel_rfl) (hval 3 23 v3 rfl rfl) h3
  obtain ⟨a4, rfl, rfl, rfl, w4⟩ := open_int Tryz.underlying3 (hval 4 3 v4 rfl rfl) h4
  obtain ⟨a5, rfl, rfl, rfl, w5⟩ := open_int Tryz.underlying3 (hval 5 3 v5 rfl rfl) h5
  exact HistoryLinear_any W ao0 cap0 rows0 c0 w0 l0 m0 a1 w1 zs2 _ ⟨ao2, cap2, rfl, c2, n2, l2⟩ w2 (by unfold maxLen at m2; omega) zs3 _ ⟨ao3, cap3, rfl, c3, n3, l3⟩ w3 (by unfold maxLen at m3; omega) a4 a5

set_option maxRecDepth 100000 in
theorem HistoryLinear_lifted (os : Os) (started : os.Started) (H : Type) (enc : TypeId × Value → H) :
    ReturnsInHanded {} Tryz.checked os 4 .any (Rows.historyLinearSpec.pre6 enc Tryz.prog Tryz.f4 Rows.historyLinearRow.domain false) (Rows.historyLinearSpec.post enc Tryz.prog Tryz.f4 false true false false) :=
  law_lifted (enc := enc) (s := Rows.historyLinearSpec) started (by kernel_rfl) Tryz.func4 rfl
      (ChangeSpec.witness6 (enc := enc) (C := Tryz.checked) false ⟨#[], #[.slice none 0 0, .int .i64 0, .slice none 0 0, .slice none 0 0, .int .i64 0, .int .i64 0], []⟩ 8 (by kernel_rfl) (by kernel_rfl) (by kernel_rfl) (by kernel_rfl))
      rfl (readable_all (by kernel_rfl))
      (by intro ds h; rw [Tryz.params4] at h; match ds, h with | [x0, x1, x2, x3, x4, x5], _ => exact ⟨rfl, rfl, rfl⟩)
      HistoryLinear_law

theorem HistoryLinear_holds : Rows.HistoryLinearSaid :=
  OpenClaim.holds_of_wide 4 Tryz.f4 rfl rfl rfl rfl rfl rfl rfl ⟨rfl, rfl, rfl, rfl, rfl⟩ rfl rfl rfl rfl rfl (by kernel_rfl) Tryz.func4 (by kernel_rfl)
    (of_decide_eq_true (by kernel_rfl)) (by unfold Func.isWrapper; first | (rw [if_pos (by decide +kernel)]; kernel_rfl) | (rw [if_neg (by decide +kernel)]; exact ⟨rfl, rfl⟩))
    (fun os started H enc _ => HistoryLinear_lifted os started H enc)
end Go.Proofs.YtfhkhknnoepfeaaGreat
