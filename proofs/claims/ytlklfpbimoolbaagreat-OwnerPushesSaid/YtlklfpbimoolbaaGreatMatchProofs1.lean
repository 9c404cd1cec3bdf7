/- The statement OwnerPushes of chapter 09: the law returns true for every input. No condition. -/
import Derived.Test.YtlklfpbimoolbaaGreatOwnMatch1
import Derived.Test.YtlklfpbimoolbaaGreatOwnMatch2
import Derived.Test.YtlklfpbimoolbaaGreatLawArr
namespace Go.Proofs.YtlklfpbimoolbaaGreat
open Go.ChangeShapes Go.WideShapes Go.ChangeAt Go.RowKit Go.Lib
set_option linter.unusedVariables false

set_option maxRecDepth 100000 in
theorem OwnerPushes_law : LawWalk 3 Tryz.f3 := by
  intro H enc W base args ds ps hval hA hlt hsz
  rw [Tryz.params3] at hA hval
  obtain ⟨v0, vs0, d0, ds0, p0, q0, hargs, rfl, rfl, h0, r0⟩ := trodAll_cons hA
  obtain ⟨v1, vs1, d1, ds1, p1, q1, rfl, rfl, rfl, h1, r1⟩ := trodAll_cons r0
  obtain ⟨v2, vs2, d2, ds2, p2, q2, rfl, rfl, rfl, h2, r2⟩ := trodAll_cons r1
  obtain ⟨v3, vs3, d3, ds3, p3, q3, rfl, rfl, rfl, h3, r3⟩ := trodAll_cons r2
  obtain ⟨rfl, rfl, rfl⟩ := trodAll_nil r3
  obtain rfl : args = #[v0, v1, v2, v3] := by cases args; simp_all
  obtain ⟨ao0, cap0, zs0, rfl, c0, w0, l0, m0⟩ := open_islice Tryz.underlying22 Tryz.underlying40 (by kernel_rfl) (hval 0 22 v0 rfl rfl) h0
  obtain ⟨zs1, l1, rfl, w1⟩ := open_iarr Tryz.underlying23 Tryz.underlying3 (by kernel_rfl) (by kernel_rfl) (hval 1 23 v1 rfl rfl) h1
  obtain ⟨a2, rfl, rfl, rfl, w2⟩ := open_int Tryz.underlying3 (hval 2 3 v2 rfl rfl) h2
  obtain ⟨ao3, cap3, zs3, rfl, c3, w3, l3, m3⟩ := open_islice Tryz.underlying24 Tryz.underlying3 (by kernel_rfl) (hval 3 24 v3 rfl rfl) h3
  exact OwnerPushes_any W ao0 cap0 zs0 c0 w0 l0 m0 zs1 l1 w1 a2 w2 ao3 cap3 zs3 c3 w3 l3 m3

set_option maxRecDepth 100000 in
theorem OwnerPushes_lifted (os : Os) (started : os.Started) (H : Type) (enc : TypeId × Value → H) :
    ReturnsInHanded {} Tryz.checked os 3 .any (Rows.ownerPushesSpec.pre6 enc Tryz.prog Tryz.f3 Rows.ownerPushesRow.domain false) (Rows.ownerPushesSpec.post enc Tryz.prog Tryz.f3 false true false false) :=
  law_lifted (enc := enc) (s := Rows.ownerPushesSpec) started (by kernel_rfl) Tryz.func3 rfl
      (ChangeSpec.witness6 (enc := enc) (C := Tryz.checked) false ⟨#[], #[.slice none 0 0, .agg #[.int .i64 0, .int .i64 0, .int .i64 0, .int .i64 0], .int .i64 0, .slice none 0 0], []⟩ 8 (by kernel_rfl) (by kernel_rfl) (by kernel_rfl) (by kernel_rfl))
      rfl (readable_all (by kernel_rfl))
      (by intro ds h; rw [Tryz.params3] at h; match ds, h with | [x0, x1, x2, x3], _ => exact ⟨rfl, rfl, rfl⟩)
      OwnerPushes_law

theorem OwnerPushes_holds : Rows.OwnerPushesSaid :=
  OpenClaim.holds_of_wide 3 Tryz.f3 rfl rfl rfl rfl rfl rfl rfl ⟨rfl, rfl, rfl, rfl, rfl⟩ rfl rfl rfl rfl rfl (by kernel_rfl) Tryz.func3 (by kernel_rfl)
    (of_decide_eq_true (by kernel_rfl)) (by unfold Func.isWrapper; first | (rw [if_pos (by decide +kernel)]; kernel_rfl) | (rw [if_neg (by decide +kernel)]; exact ⟨rfl, rfl⟩))
    (fun os started H enc _ => OwnerPushes_lifted os started H enc)
end Go.Proofs.YtlklfpbimoolbaaGreat
