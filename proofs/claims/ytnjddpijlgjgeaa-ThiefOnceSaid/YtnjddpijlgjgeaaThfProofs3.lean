/- The statement ThiefOnce of chapter 10 (thief): the law returns true for every input. No condition. -/
import Derived.Test.YtnjddpijlgjgeaaLaw
import Derived.Test.YtnjddpijlgjgeaaOnce
namespace Go.Proofs.Ytnjddpijlgjgeaa
open Go.ChangeShapes Go.WideShapes Go.ChangeAt Go.RowKit Go.Lib
set_option linter.unusedVariables false

set_option maxRecDepth 100000 in
theorem ThiefOnce_law : LawWalk 7 Try.f7 := by
  intro H enc W base args ds ps hval hA hlt hsz
  rw [Try.params7] at hA hval
  obtain ⟨v0, vs0, d0, ds0, p0, q0, hargs, rfl, rfl, h0, r0⟩ := trodAll_cons hA
  obtain ⟨v1, vs1, d1, ds1, p1, q1, rfl, rfl, rfl, h1, r1⟩ := trodAll_cons r0
  obtain ⟨v2, vs2, d2, ds2, p2, q2, rfl, rfl, rfl, h2, r2⟩ := trodAll_cons r1
  obtain ⟨v3, vs3, d3, ds3, p3, q3, rfl, rfl, rfl, h3, r3⟩ := trodAll_cons r2
  obtain ⟨rfl, rfl, rfl⟩ := trodAll_nil r3
  obtain rfl : args = #[v0, v1, v2, v3] := by cases args; simp_all
  obtain ⟨a0, rfl, rfl, rfl, w0⟩ := open_int Try.underlying5 (hval 0 5 v0 rfl rfl) h0
  obtain ⟨a1, rfl, rfl, rfl, w1⟩ := open_int Try.underlying5 (hval 1 5 v1 rfl rfl) h1
  obtain ⟨a2, rfl, rfl, rfl, w2⟩ := open_int Try.underlying22 (hval 2 22 v2 rfl rfl) h2
  obtain ⟨ao3, cap3, zs3, rfl, c3, w3, l3, m3, n3⟩ := open_islice2 Try.underlying23 Try.underlying3 (by kernel_rfl) (hval 3 23 v3 rfl rfl) h3
  exact ThiefOnce_any W a0 w0 a1 w1 a2 w2 zs3 _ ⟨ao3, cap3, rfl, c3, n3, l3⟩ w3 (by unfold maxLen at m3; omega)

set_option maxRecDepth 100000 in
theorem ThiefOnce_lifted (os : Os) (started : os.Started) (H : Type) (enc : TypeId × Value → H) :
    ReturnsInHanded {} Try.checked os 7 .any (Rows.thiefOnceSpec.pre6 enc Try.prog Try.f7 Rows.thiefOnceRow.domain false) (Rows.thiefOnceSpec.post enc Try.prog Try.f7 false true false false) :=
  law_lifted (enc := enc) (s := Rows.thiefOnceSpec) started (by kernel_rfl) Try.func7 rfl
      (ChangeSpec.witness6 (enc := enc) (C := Try.checked) false ⟨#[], #[.int .u8 0, .int .u8 0, .int .u64 0, .slice none 0 0], []⟩ 8 (by kernel_rfl) (by kernel_rfl) (by kernel_rfl) (by kernel_rfl))
      rfl (readable_all (by kernel_rfl))
      (by intro ds h; rw [Try.params7] at h; match ds, h with | [x0, x1, x2, x3], _ => exact ⟨rfl, rfl, rfl⟩)
      ThiefOnce_law

theorem ThiefOnce_holds : Rows.ThiefOnceSaid :=
  OpenClaim.holds_of_wide 7 Try.f7 rfl rfl rfl rfl rfl rfl rfl ⟨rfl, rfl, rfl, rfl, rfl⟩ rfl rfl rfl rfl rfl (by kernel_rfl) Try.func7 (by kernel_rfl)
    (of_decide_eq_true (by kernel_rfl)) (by unfold Func.isWrapper; first | (rw [if_pos (by decide +kernel)]; kernel_rfl) | (rw [if_neg (by decide +kernel)]; exact ⟨rfl, rfl⟩))
    (fun os started H enc _ => ThiefOnce_lifted os started H enc)
end Go.Proofs.Ytnjddpijlgjgeaa
