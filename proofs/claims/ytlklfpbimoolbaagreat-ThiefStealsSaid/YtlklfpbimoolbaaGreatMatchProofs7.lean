/- The statement ThiefSteals of chapter 10: the law returns true for every input. No condition. -/
import Derived.Test.YtlklfpbimoolbaaGreatThfMatch2
import Derived.Test.YtlklfpbimoolbaaGreatLawArr
namespace Go.Proofs.YtlklfpbimoolbaaGreat
open Go.ChangeShapes Go.WideShapes Go.ChangeAt Go.RowKit Go.Lib
set_option linter.unusedVariables false

set_option maxRecDepth 100000 in
theorem ThiefSteals_law : LawWalk 6 Tryz.f6 := by
  intro H enc W base args ds ps hval hA hlt hsz
  rw [Tryz.params6] at hA hval
  obtain ⟨v0, vs0, d0, ds0, p0, q0, hargs, rfl, rfl, h0, r0⟩ := trodAll_cons hA
  obtain ⟨v1, vs1, d1, ds1, p1, q1, rfl, rfl, rfl, h1, r1⟩ := trodAll_cons r0
  obtain ⟨v2, vs2, d2, ds2, p2, q2, rfl, rfl, rfl, h2, r2⟩ := trodAll_cons r1
  obtain ⟨rfl, rfl, rfl⟩ := trodAll_nil r2
  obtain rfl : args = #[v0, v1, v2] := by cases args; simp_all
  obtain ⟨ao0, cap0, zs0, rfl, c0, w0, l0, m0⟩ := open_islice Tryz.underlying22 Tryz.underlying40 (by kernel_rfl) (hval 0 22 v0 rfl rfl) h0
  obtain ⟨zs1, l1, rfl, w1⟩ := open_iarr Tryz.underlying23 Tryz.underlying3 (by kernel_rfl) (by kernel_rfl) (hval 1 23 v1 rfl rfl) h1
  obtain ⟨ao2, cap2, zs2, rfl, c2, w2, l2, m2⟩ := open_islice Tryz.underlying24 Tryz.underlying3 (by kernel_rfl) (hval 2 24 v2 rfl rfl) h2
  exact ThiefSteals_any W ao0 cap0 zs0 c0 w0 l0 m0 zs1 l1 w1 ao2 cap2 zs2 c2 w2 l2 m2

set_option maxRecDepth 100000 in
theorem ThiefSteals_lifted (os : Os) (started : os.Started) (H : Type) (enc : TypeId × Value → H) :
    ReturnsInHanded {} Tryz.checked os 6 .any (Rows.thiefStealsSpec.pre6 enc Tryz.prog Tryz.f6 Rows.thiefStealsRow.domain false) (Rows.thiefStealsSpec.post enc Tryz.prog Tryz.f6 false true false false) :=
  law_lifted (enc := enc) (s := Rows.thiefStealsSpec) started (by kernel_rfl) Tryz.func6 rfl
      (ChangeSpec.witness6 (enc := enc) (C := Tryz.checked) false ⟨#[], #[.slice none 0 0, .agg #[.int .i64 0, .int .i64 0, .int .i64 0, .int .i64 0], .slice none 0 0], []⟩ 8 (by kernel_rfl) (by kernel_rfl) (by kernel_rfl) (by kernel_rfl))
      rfl (readable_all (by kernel_rfl))
      (by intro ds h; rw [Tryz.params6] at h; match ds, h with | [x0, x1, x2], _ => exact ⟨rfl, rfl, rfl⟩)
      ThiefSteals_law

theorem ThiefSteals_holds : Rows.ThiefStealsSaid :=
  OpenClaim.holds_of_wide 6 Tryz.f6 rfl rfl rfl rfl rfl rfl rfl ⟨rfl, rfl, rfl, rfl, rfl⟩ rfl rfl rfl rfl rfl (by kernel_rfl) Tryz.func6 (by kernel_rfl)
    (of_decide_eq_true (by kernel_rfl)) (by unfold Func.isWrapper; first | (rw [if_pos (by decide +kernel)]; kernel_rfl) | (rw [if_neg (by decide +kernel)]; exact ⟨rfl, rfl⟩))
    (fun os started H enc _ => ThiefSteals_lifted os started H enc)
end Go.Proofs.YtlklfpbimoolbaaGreat
