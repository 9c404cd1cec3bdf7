/- The statement WordsEarlier of chapter 01: the law returns true for every input, by the tied card. No condition. -/
import Derived.Test.YtdbbnoffoaldfaaDoorWordsEarl
namespace Go.Proofs.YtdbbnoffoaldfaaDoor
open Go.ChangeShapes Go.WideShapes Go.ChangeAt Go.RowKit Go.Lib
set_option linter.unusedVariables false

set_option maxRecDepth 100000 in
theorem WordsEarlier_law : LawWalkT 3 Tryd.f3 := by
  intro H enc W base args ds ps hval hA hT
  rw [Tryd.params3] at hA hval
  obtain ⟨v0, vs0, d0, ds0, p0, q0, hargs, rfl, rfl, h0, r0⟩ := trodAll_cons hA
  obtain ⟨v1, vs1, d1, ds1, p1, q1, rfl, rfl, rfl, h1, r1⟩ := trodAll_cons r0
  obtain ⟨rfl, rfl, rfl⟩ := trodAll_nil r1
  obtain rfl : args = #[v0, v1] := by cases args; simp_all
  obtain ⟨zs0, l0, rfl, w0⟩ := open_iarr Tryd.underlying22 Tryd.underlying3 (by kernel_rfl) (by kernel_rfl) (hval 0 22 v0 rfl rfl) h0
  obtain ⟨zs1, l1, rfl, w1⟩ := open_iarr Tryd.underlying22 Tryd.underlying3 (by kernel_rfl) (by kernel_rfl) (hval 1 22 v1 rfl rfl) h1
  exact WordsEarlier_any W zs0 l0 zs1 l1 hT

set_option maxRecDepth 100000 in
theorem WordsEarlier_lifted (os : Os) (started : os.Started) (H : Type) (enc : TypeId × Value → H) :
    ReturnsInHanded {} Tryd.checked os 3 .any (fun w args => (Rows.wordsEarlierSpec.pre enc Tryd.prog Tryd.f3 [] false w args ∧ laidMetH Tryd.prog laid1 w) ∧ sizedMet enc Tryd.prog Tryd.f3 (OpenSpec.ofChange Rows.wordsEarlierSpec) false w args)
      (Rows.wordsEarlierSpec.post enc Tryd.prog Tryd.f3 false true false false) :=
  law_lifted_laid (enc := enc) (s := Rows.wordsEarlierSpec) started (by kernel_rfl) Tryd.func3 rfl
      (ChangeSpec.witness_shaped (enc := enc) (C := Tryd.checked) (os := os) (X := fun w _ => laidMetH Tryd.prog laid1 w) false (World.doorLaid Tryd.prog 600 os) #[.agg #[.int .i64 0, .int .i64 0, .int .i64 0], .agg #[.int .i64 0, .int .i64 0, .int .i64 0]] 8 rfl (World.shaped_of_RefB (by kernel_rfl) (by kernel_rfl)) (by kernel_rfl) (by kernel_rfl) (by kernel_rfl) (door_met os _))
      rfl (readable_all (by kernel_rfl))
      (by intro ds h; rw [Tryd.params3] at h; match ds, h with | [x0, x1], _ => exact ⟨rfl, rfl, rfl⟩)
      WordsEarlier_law

theorem WordsEarlier_row : Rows.WordsEarlierSaid :=
  OpenClaim.holds_of_wide 3 Tryd.f3 rfl rfl rfl rfl rfl rfl rfl ⟨rfl, rfl, rfl, rfl, rfl⟩ rfl rfl rfl rfl rfl (by kernel_rfl) Tryd.func3 (by kernel_rfl)
    (of_decide_eq_true (by kernel_rfl)) (by unfold Func.isWrapper; first | (rw [if_pos (by decide +kernel)]; kernel_rfl) | (rw [if_neg (by decide +kernel)]; exact ⟨rfl, rfl⟩))
    (fun os started H enc _ => WordsEarlier_lifted os started H enc)

theorem WordsEarlier_holds : Rows.WordsEarlierCardSaid :=
  Claim7.holds_tied_plain_at .later [] [.data] true (true, "4218abebdaefbe6fb4c4a97b30391b25c95a74d7344140f3673191b41872d21f") false
    WordsEarlier_row (fun _ h => by cases h) (by kernel_rfl) (fun _ h => by cases h) wordsEarlier_row_tie rfl ⟨rfl, rfl⟩ (by kernel_rfl) rfl
    (fun f fn hf hfn => by
      obtain rfl : f = 3 := Option.some.inj ((show Tryd.prog.funcNamed "worksteal/worksteallaw01.WordsEarlier" = some 3 by kernel_rfl).symm.trans hf) |>.symm
      obtain rfl : fn = Tryd.f3 := (Option.some.inj (Tryd.func3.symm.trans hfn)).symm
      exact ⟨by kernel_rfl, fun j t ht => by
        rw [Tryd.params3] at ht
        exact standIns_none (ts := Tryd.f3.params) (by kernel_rfl) j t (by rw [Tryd.params3]; exact ht)⟩)
    (by kernel_rfl)

end Go.Proofs.YtdbbnoffoaldfaaDoor
