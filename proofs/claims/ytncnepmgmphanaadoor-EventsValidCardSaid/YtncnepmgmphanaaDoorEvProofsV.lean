/- The statement EventsValid of chapter 07: the law returns true for every input, by the tied card. No condition. -/
import Derived.Test.YtncnepmgmphanaaDoorEvLaw
import Derived.Test.YtncnepmgmphanaaDoorEvLawV
import Derived.Lay
import Derived.ProofKit
import Derived.OpenShut
namespace Go.Proofs.YtncnepmgmphanaaDoor
open Go.ChangeShapes Go.WideShapes Go.ChangeAt Go.RowKit Go.Lib
set_option linter.unusedVariables false

set_option maxRecDepth 100000 in
theorem EventsValid_law : LawWalkE 3 Tryd.f3 := by
  intro H enc W base args ds ps hval hA hT
  rw [Tryd.params3] at hA hval
  obtain ⟨v0, vs0, d0, ds0, p0, q0, hargs, rfl, rfl, h0, r0⟩ := trodAll_cons hA
  obtain ⟨v1, vs1, d1, ds1, p1, q1, rfl, rfl, rfl, h1, r1⟩ := trodAll_cons r0
  obtain ⟨rfl, rfl, rfl⟩ := trodAll_nil r1
  obtain rfl : args = #[v0, v1] := by cases args; simp_all
  obtain ⟨K, a, b, c, d, rfl⟩ := open_ev (hval 0 23 v0 rfl rfl) h0
  obtain ⟨near, rfl, -⟩ := open_bool Tryd.underlying4 (hval 1 4 v1 rfl rfl) h1
  exact EventsValid_any W hT K a b c d near

set_option maxRecDepth 100000 in
theorem EventsValid_lifted (os : Os) (started : os.Started) (H : Type) (enc : TypeId × Value → H) :
    ReturnsInHanded {} Tryd.checked os 3 .any (fun w args => (Rows.eventsValidSpec.pre enc Tryd.prog Tryd.f3 [] false w args ∧ laidMetH Tryd.prog laidE w) ∧ sizedMet enc Tryd.prog Tryd.f3 (OpenSpec.ofChange Rows.eventsValidSpec) false w args)
      (Rows.eventsValidSpec.post enc Tryd.prog Tryd.f3 false true false false) :=
  law_lifted_E (enc := enc) (s := Rows.eventsValidSpec) started (by kernel_rfl) Tryd.func3 rfl
      (ChangeSpec.witness_shaped (enc := enc) (C := Tryd.checked) (os := os) (X := fun w _ => laidMetH Tryd.prog laidE w) false (World.laidAll Tryd.prog os laidE) #[.agg #[.int .i64 0, .int .i64 0, .int .i64 0, .int .i64 0, .int .i64 0], .bool false] 8 (World.laidAll_os _ _ _) (World.shaped_of_ZipB (by kernel_rfl) (by kernel_rfl)) (by kernel_rfl) (by kernel_rfl) (by kernel_rfl)
      (by rw [MakeChecks.laidMetH_plain _ _ _ (by kernel_rfl)]; exact laidMet_laidAll _ (by kernel_rfl) (by kernel_rfl)))
      rfl (readable_all (by kernel_rfl))
      (by intro ds h; rw [Tryd.params3] at h; match ds, h with | [x0, x1], _ => exact ⟨rfl, rfl, rfl⟩)
      EventsValid_law

theorem EventsValid_row : Rows.EventsValidSaid :=
  OpenClaim.holds_of_wide 3 Tryd.f3 rfl rfl rfl rfl rfl rfl rfl ⟨rfl, rfl, rfl, rfl, rfl⟩ rfl rfl rfl rfl rfl (by kernel_rfl) Tryd.func3 (by kernel_rfl)
    (of_decide_eq_true (by kernel_rfl)) (by unfold Func.isWrapper; first | (rw [if_pos (by decide +kernel)]; kernel_rfl) | (rw [if_neg (by decide +kernel)]; exact ⟨rfl, rfl⟩))
    (fun os started H enc _ => EventsValid_lifted os started H enc)

theorem EventsValid_holds : Rows.EventsValidCardSaid :=
  Claim7.holds_tied_plain_at .later [] [.data, .data, .data, .data, .sentinel, .sentinel, .pinned] true (true, "8d3893f1b56a8e96e980880ce99e07638838633aff30bdc7cfe19753bb1b6ba2") true
    EventsValid_row (fun _ h => by cases h) (by kernel_rfl) (fun _ h => by cases h) eventsValid_row_tie rfl ⟨rfl, rfl⟩ (by kernel_rfl) rfl
    (fun f fn hf hfn => by
      obtain rfl : f = 3 := Option.some.inj ((show Tryd.prog.funcNamed "worksteal/worksteallaw07.EventsValid" = some 3 by kernel_rfl).symm.trans hf) |>.symm
      obtain rfl : fn = Tryd.f3 := (Option.some.inj (Tryd.func3.symm.trans hfn)).symm
      exact ⟨by kernel_rfl, fun j t ht => by
        rw [Tryd.params3] at ht
        exact standIns_none (ts := Tryd.f3.params) (by kernel_rfl) j t (by rw [Tryd.params3]; exact ht)⟩)
    (by kernel_rfl)

end Go.Proofs.YtncnepmgmphanaaDoor
