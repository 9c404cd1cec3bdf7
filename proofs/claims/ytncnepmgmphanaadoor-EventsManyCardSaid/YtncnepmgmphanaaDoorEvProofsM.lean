/- The statement EventsMany of chapter 07: the law returns true for every input, by the tied card. No condition. -/
import Derived.Test.YtncnepmgmphanaaDoorEvLaw
import Derived.Test.YtncnepmgmphanaaDoorEvLawM
import Derived.Lay
import Derived.ProofKit
import Derived.OpenShut
namespace Go.Proofs.YtncnepmgmphanaaDoor
open Go.ChangeShapes Go.WideShapes Go.ChangeAt Go.RowKit Go.Lib
set_option linter.unusedVariables false

set_option maxRecDepth 100000 in
theorem EventsMany_law : LawWalkE 4 Tryd.f4 := by
  intro H enc W base args ds ps hval hA hT
  rw [Tryd.params4] at hA hval
  obtain ⟨v0, vs0, d0, ds0, p0, q0, hargs, rfl, rfl, h0, r0⟩ := trodAll_cons hA
  obtain ⟨rfl, rfl, rfl⟩ := trodAll_nil r0
  obtain rfl : args = #[v0] := by cases args; simp_all
  obtain ⟨z, rfl, -, -⟩ := open_int Tryd.underlying3 (hval 0 3 v0 rfl rfl) h0
  exact EventsMany_any W hT z

set_option maxRecDepth 100000 in
theorem EventsMany_lifted (os : Os) (started : os.Started) (H : Type) (enc : TypeId × Value → H) :
    ReturnsInHanded {} Tryd.checked os 4 .any (fun w args => (Rows.eventsManySpec.pre enc Tryd.prog Tryd.f4 [] false w args ∧ laidMetH Tryd.prog laidE w) ∧ sizedMet enc Tryd.prog Tryd.f4 (OpenSpec.ofChange Rows.eventsManySpec) false w args)
      (Rows.eventsManySpec.post enc Tryd.prog Tryd.f4 false true false false) :=
  law_lifted_E (enc := enc) (s := Rows.eventsManySpec) started (by kernel_rfl) Tryd.func4 rfl
      (ChangeSpec.witness_shaped (enc := enc) (C := Tryd.checked) (os := os) (X := fun w _ => laidMetH Tryd.prog laidE w) false (World.laidAll Tryd.prog os laidE) #[.int .i64 0] 8 (World.laidAll_os _ _ _) (World.shaped_of_ZipB (by kernel_rfl) (by kernel_rfl)) (by kernel_rfl) (by kernel_rfl) (by kernel_rfl)
      (by rw [MakeChecks.laidMetH_plain _ _ _ (by kernel_rfl)]; exact laidMet_laidAll _ (by kernel_rfl) (by kernel_rfl)))
      rfl (readable_all (by kernel_rfl))
      (by intro ds h; rw [Tryd.params4] at h; match ds, h with | [x0], _ => exact ⟨rfl, rfl, rfl⟩)
      EventsMany_law

theorem EventsMany_row : Rows.EventsManySaid :=
  OpenClaim.holds_of_wide 4 Tryd.f4 rfl rfl rfl rfl rfl rfl rfl ⟨rfl, rfl, rfl, rfl, rfl⟩ rfl rfl rfl rfl rfl (by kernel_rfl) Tryd.func4 (by kernel_rfl)
    (of_decide_eq_true (by kernel_rfl)) (by unfold Func.isWrapper; first | (rw [if_pos (by decide +kernel)]; kernel_rfl) | (rw [if_neg (by decide +kernel)]; exact ⟨rfl, rfl⟩))
    (fun os started H enc _ => EventsMany_lifted os started H enc)

theorem EventsMany_holds : Rows.EventsManyCardSaid :=
  Claim7.holds_tied_plain_at .later [] [.data, .data, .data, .data, .sentinel, .sentinel, .pinned] true (true, "8d3893f1b56a8e96e980880ce99e07638838633aff30bdc7cfe19753bb1b6ba2") true
    EventsMany_row (fun _ h => by cases h) (by kernel_rfl) (fun _ h => by cases h) eventsMany_row_tie rfl ⟨rfl, rfl⟩ (by kernel_rfl) rfl
    (fun f fn hf hfn => by
      obtain rfl : f = 4 := Option.some.inj ((show Tryd.prog.funcNamed "worksteal/worksteallaw07.EventsMany" = some 4 by kernel_rfl).symm.trans hf) |>.symm
      obtain rfl : fn = Tryd.f4 := (Option.some.inj (Tryd.func4.symm.trans hfn)).symm
      exact ⟨by kernel_rfl, fun j t ht => by
        rw [Tryd.params4] at ht
        exact standIns_none (ts := Tryd.f4.params) (by kernel_rfl) j t (by rw [Tryd.params4]; exact ht)⟩)
    (by kernel_rfl)

end Go.Proofs.YtncnepmgmphanaaDoor
