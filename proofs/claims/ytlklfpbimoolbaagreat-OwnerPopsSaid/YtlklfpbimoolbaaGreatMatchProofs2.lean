/- The statement OwnerPops of chapter 09: the law returns true for every input. No condition. -/
import Derived.Test.YtlklfpbimoolbaaGreatOwnMatch1
import Derived.Test.YtlklfpbimoolbaaGreatOwnMatch2
import Derived.Test.YtlklfpbimoolbaaGreatLawArr
namespace Go.Proofs.YtlklfpbimoolbaaGreat
open Go.ChangeShapes Go.WideShapes Go.ChangeAt Go.RowKit Go.Lib
set_option linter.unusedVariables false

set_option maxRecDepth 100000 in
theorem OwnerPops_law : LawWalk 4 Tryz.f4 := by
  intro H enc W base args ds ps hval hA hlt hsz
  rw [Tryz.params4] at hA hval
  obtain ⟨v0, vs0, d0, ds0, p0, q0, hargs, rfl, rfl, h0, r0⟩ := trodAll_cons hA
  obtain ⟨v1, vs1, d1, ds1, p1, q1, rfl, rfl, rfl, h1, r1⟩ := trodAll_cons r0
  obtain ⟨v2, vs2, d2, ds2, p2, q2, rfl, rfl, rfl, h2, r2⟩ := trodAll_cons r1
  obtain ⟨rfl, rfl, rfl⟩ := trodAll_nil r2
  obtain rfl : args = #[v0, v1, v2] := by cases args; simp_all
  obtain ⟨ao0, cap0, zs0, rfl, c0, w0, l0, m0⟩ := open_islice Tryz.underlying22 Tryz.underlying40 (by kernel_rfl) (hval 0 22 v0 rfl rfl) h0
  obtain ⟨zs1, l1, rfl, w1⟩ := open_iarr Tryz.underlying23 Tryz.underlying3 (by kernel_rfl) (by kernel_rfl) (hval 1 23 v1 rfl rfl) h1
  obtain ⟨ao2, cap2, zs2, rfl, c2, w2, l2, m2⟩ := open_islice Tryz.underlying24 Tryz.underlying3 (by kernel_rfl) (hval 2 24 v2 rfl rfl) h2
  exact OwnerPops_any W ao0 cap0 zs0 c0 w0 l0 m0 zs1 l1 w1 ao2 cap2 zs2 c2 w2 l2 m2

set_option maxRecDepth 100000 in
theorem OwnerPops_lifted (os : Os) (started : os.Started) (H : Type) (enc : TypeId × Value → H) :
    ReturnsInHanded {} Tryz.checked os 4 .any (Rows.ownerPopsSpec.pre6 enc Tryz.prog Tryz.f4 Rows.ownerPopsRow.domain false) (Rows.ownerPopsSpec.post enc Tryz.prog Tryz.f4 false true false false) :=
  law_lifted (enc := enc) (s := Rows.ownerPopsSpec) started (by kernel_rfl) Tryz.func4 rfl
      (ChangeSpec.witness6 (enc := enc) (C := Tryz.checked) false ⟨#[], #[.slice none 0 0, .agg #[.int .i64 0, .int .i64 0, .int .i64 0, .int .i64 0], .slice none 0 0], []⟩ 8 (by kernel_rfl) (by kernel_rfl) (by kernel_rfl) (by kernel_rfl))
      rfl (readable_all (by kernel_rfl))
      (by intro ds h; rw [Tryz.params4] at h; match ds, h with | [x0, x1, x2], _ => exact ⟨rfl, rfl, rfl⟩)
      OwnerPops_law

theorem OwnerPops_holds : Rows.OwnerPopsSaid :=
  OpenClaim.holds_of_wide 4 Tryz.f4 rfl rfl rfl rfl rfl rfl rfl ⟨rfl, rfl, rfl, rfl, rfl⟩ rfl rfl rfl rfl rfl (by kernel_rfl) Tryz.func4 (by kernel_rfl)
    (of_decide_eq_true (by kernel_rfl)) (by unfold Func.isWrapper; first | (rw [if_pos (by decide +kernel)]; kernel_rfl) | (rw [if_neg (by decide +kernel)]; exact ⟨rfl, rfl⟩))
    (fun os started H enc _ => OwnerPops_lifted os started H enc)
end Go.Proofs.YtlklfpbimoolbaaGreat
