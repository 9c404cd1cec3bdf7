/- The statement BitmapClears of chapter 12: the law returns true for every input. No condition. -/
import Derived.Test.YtlklfpbimoolbaaGreatBitMatch2
import Derived.Test.YtlklfpbimoolbaaGreatLaw
namespace Go.Proofs.YtlklfpbimoolbaaGreat
open Go.ChangeShapes Go.WideShapes Go.ChangeAt Go.RowKit Go.Lib
set_option linter.unusedVariables false

set_option maxRecDepth 100000 in
theorem BitmapClears_law : LawWalk 9 Tryz.f9 := by
  intro H enc W base args ds ps hval hA hlt hsz
  rw [Tryz.params9] at hA hval
  obtain ⟨v0, vs0, d0, ds0, p0, q0, hargs, rfl, rfl, h0, r0⟩ := trodAll_cons hA
  obtain ⟨v1, vs1, d1, ds1, p1, q1, rfl, rfl, rfl, h1, r1⟩ := trodAll_cons r0
  obtain ⟨v2, vs2, d2, ds2, p2, q2, rfl, rfl, rfl, h2, r2⟩ := trodAll_cons r1
  obtain ⟨v3, vs3, d3, ds3, p3, q3, rfl, rfl, rfl, h3, r3⟩ := trodAll_cons r2
  obtain ⟨v4, vs4, d4, ds4, p4, q4, rfl, rfl, rfl, h4, r4⟩ := trodAll_cons r3
  obtain ⟨v5, vs5, d5, ds5, p5, q5, rfl, rfl, rfl, h5, r5⟩ := trodAll_cons r4
  obtain ⟨rfl, rfl, rfl⟩ := trodAll_nil r5
  obtain rfl : args = #[v0, v1, v2, v3, v4, v5] := by cases args; simp_all
  obtain ⟨ao0, cap0, zs0, rfl, c0, w0, l0, m0⟩ := open_islice Tryz.underlying22 Tryz.underlying40 (by kernel_rfl) (hval 0 22 v0 rfl rfl) h0
  obtain ⟨a1, rfl, rfl, rfl, w1⟩ := open_int Tryz.underlying3 (hval 1 3 v1 rfl rfl) h1
  obtain ⟨a2, rfl, rfl, rfl, w2⟩ := open_int Tryz.underlying3 (hval 2 3 v2 rfl rfl) h2
  obtain ⟨a3, rfl, rfl, rfl, w3⟩ := open_int Tryz.underlying3 (hval 3 3 v3 rfl rfl) h3
  obtain ⟨ao4, cap4, zs4, rfl, c4, w4, l4, m4⟩ := open_islice Tryz.underlying24 Tryz.underlying3 (by kernel_rfl) (hval 4 24 v4 rfl rfl) h4
  obtain ⟨a5, rfl, rfl, rfl⟩ := open_bool Tryz.underlying4 (hval 5 4 v5 rfl rfl) h5
  exact BitmapClears_any W ao0 cap0 zs0 c0 w0 l0 m0 a1 w1 a2 w2 a3 w3 ao4 cap4 zs4 c4 w4 l4 m4 a5

set_option maxRecDepth 100000 in
theorem BitmapClears_lifted (os : Os) (started : os.Started) (H : Type) (enc : TypeId × Value → H) :
    ReturnsInHanded {} Tryz.checked os 9 .any (Rows.bitmapClearsSpec.pre6 enc Tryz.prog Tryz.f9 Rows.bitmapClearsRow.domain false) (Rows.bitmapClearsSpec.post enc Tryz.prog Tryz.f9 false true false false) :=
  law_lifted (enc := enc) (s := Rows.bitmapClearsSpec) started (by kernel_rfl) Tryz.func9 rfl
      (ChangeSpec.witness6 (enc := enc) (C := Tryz.checked) false ⟨#[], #[.slice none 0 0, .int .i64 0, .int .i64 0, .int .i64 0, .slice none 0 0, .bool false], []⟩ 8 (by kernel_rfl) (by kernel_rfl) (by kernel_rfl) (by kernel_rfl))
      rfl (readable_all (by kernel_rfl))
      (by intro ds h; rw [Tryz.params9] at h; match ds, h with | [x0, x1, x2, x3, x4, x5], _ => exact ⟨rfl, rfl, rfl⟩)
      BitmapClears_law

theorem BitmapClears_holds : Rows.BitmapClearsSaid :=
  OpenClaim.holds_of_wide 9 Tryz.f9 rfl rfl rfl rfl rfl rfl rfl ⟨rfl, rfl, rfl, rfl, rfl⟩ rfl rfl rfl rfl rfl (by kernel_rfl) Tryz.func9 (by kernel_rfl)
    (of_decide_eq_true (by kernel_rfl)) (by unfold Func.isWrapper; first | (rw [if_pos (by decide +kernel)]; kernel_rfl) | (rw [if_neg (by decide +kernel)]; exact ⟨rfl, rfl⟩))
    (fun os started H enc _ => BitmapClears_lifted os started H enc)
end Go.Proofs.YtlklfpbimoolbaaGreat
