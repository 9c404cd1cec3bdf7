/- The statement EventsRound of chapter 07: the law returns true for every input, by the tied card. No condition. -/
import Derived.Test.YtncnepmgmphanaaGreatDoorMg26
import Derived.Test.YtncnepmgmphanaaGreatDoorMg28
import Derived.Lay
import Derived.ProofKit
import Derived.OpenShut
set_option linter.unusedVariables false
set_option linter.unusedSimpArgs false
set_option linter.unusedSectionVars false
namespace Go.Proofs.YtncnepmgmphanaaGreatDoor
open Go.ChangeShapes Go.WideShapes Go.ChangeAt Go.RowKit Go.Lib
set_option maxRecDepth 100000 in
theorem EventsRound_law : LawWalkE 5 Tryz.f5 := by
  intro H enc W base args ds ps hval hA hT
  rw [Tryz.params5] at hA hval
  obtain ⟨v0, vs0, d0, ds0, p0, q0, hargs, rfl, rfl, h0, r0⟩ := trodAll_cons hA
  obtain ⟨v1, vs1, d1, ds1, p1, q1, rfl, rfl, rfl, h1, r1⟩ := trodAll_cons r0
  obtain ⟨v2, vs2, d2, ds2, p2, q2, rfl, rfl, rfl, h2, r2⟩ := trodAll_cons r1
  obtain ⟨v3, vs3, d3, ds3, p3, q3, rfl, rfl, rfl, h3, r3⟩ := trodAll_cons r2
  obtain ⟨v4, vs4, d4, ds4, p4, q4, rfl, rfl, rfl, h4, r4⟩ := trodAll_cons r3
  obtain ⟨rfl, rfl, rfl⟩ := trodAll_nil r4
  obtain rfl : args = #[v0, v1, v2, v3, v4] := by cases args; simp_all
  obtain ⟨l0, hE0, hn0⟩ := open_evs (hval 0 22 v0 rfl rfl) h0
  obtain ⟨ao1, nb1, cap1, rfl, hb1, hn1⟩ := open_bytes (hval 1 23 v1 rfl rfl) h1
  obtain ⟨ao2, nb2, cap2, rfl, hb2, hn2⟩ := open_bytes (hval 2 23 v2 rfl rfl) h2
  obtain ⟨zs3, hz3, hn3⟩ := open_nums (hval 3 29 v3 rfl rfl) h3
  obtain ⟨b4, rfl, -⟩ := open_bool Tryz.underlying4 (hval 4 4 v4 rfl rfl) h4
  exact EventsRound_any W hT v0 l0 hE0 hn0 ao1 nb1 cap1 hb1 hn1 ao2 nb2 cap2 hb2 hn2 v3 zs3 hz3 hn3 b4
set_option maxRecDepth 100000 in
theorem EventsRound_lifted (os : Os) (started : os.Started) (H : Type) (enc : TypeId × Value → H) :
    ReturnsInHanded {} Tryz.checked os 5 .any (fun w args => (Rows.eventsRoundSpec.pre enc Tryz.prog Tryz.f5 [] false w args ∧ laidMetH Tryz.prog laidE w) ∧ sizedMet enc Tryz.prog Tryz.f5 (OpenSpec.ofChange Rows.eventsRoundSpec) false w args)
      (Rows.eventsRoundSpec.post enc Tryz.prog Tryz.f5 false true false false) :=
  law_lifted_E (enc := enc) (s := Rows.eventsRoundSpec) started (by kernel_rfl) Tryz.func5 rfl
      (ChangeSpec.witness_shaped (enc := enc) (C := Tryz.checked) (os := os) (X := fun w _ => laidMetH Tryz.prog laidE w) false (World.laidAll Tryz.prog os laidE) #[.slice none 0 0, .slice none 0 0, .slice none 0 0, .slice none 0 0, .bool false] 8 (World.laidAll_os _ _ _) (World.shaped_of_ZipB (by kernel_rfl) (by kernel_rfl)) (by kernel_rfl) (by kernel_rfl) (by kernel_rfl)
      (by rw [MakeChecks.laidMetH_plain _ _ _ (by kernel_rfl)]; exact laidMet_laidAll _ (by kernel_rfl) (by kernel_rfl)))
      rfl (readable_all (by kernel_rfl))
      (by intro ds h; rw [Tryz.params5] at h; match ds, h with | [x0, x1, x2, x3, x4], _ => exact ⟨rfl, rfl, rfl⟩)
      EventsRound_law
theorem EventsRound_row : Rows.EventsRoundSaid :=
  OpenClaim.holds_of_wide 5 Tryz.f5 rfl rfl rfl rfl rfl rfl rfl ⟨rfl, rfl, rfl, rfl, rfl⟩ rfl rfl rfl rfl rfl (by kernel_rfl) Tryz.func5 (by kernel_rfl)
    (of_decide_eq_true (by kernel_rfl)) (by unfold Func.isWrapper; first | (rw [if_pos (by decide +kernel)]; kernel_rfl) | (rw [if_neg (by decide +kernel)]; exact ⟨rfl, rfl⟩))
    (fun os started H enc _ => EventsRound_lifted os started H enc)
theorem EventsRound_holds : Rows.EventsRoundCardSaid :=
  Claim7.holds_tied_plain_at .later [] [.data, .data, .data, .data, .sentinel, .sentinel, .pinned] true (true, "0ce8cb4dc93a482967cf9ed3c9be0d19b91dab9e53a58507716f9634ecc744d4") true
    EventsRound_row (fun _ h => by cases h) (by kernel_rfl) (fun _ h => by cases h) eventsRound_row_tie rfl ⟨rfl, rfl⟩ (by kernel_rfl) rfl
    (fun f fn hf hfn => by
      obtain rfl : f = 5 := Option.some.inj ((show Tryz.prog.funcNamed "worksteal/worksteallaw07.EventsRound" = some 5 by kernel_rfl).symm.trans hf) |>.symm
      obtain rfl : fn = Tryz.f5 := (Option.some.inj (Tryz.func5.symm.trans hfn)).symm
      exact ⟨by kernel_rfl, fun j t ht => by
        rw [Tryz.params5] at ht
        exact standIns_none (ts := Tryz.f5.params) (by kernel_rfl) j t (by rw [Tryz.params5]; exact ht)⟩)
    (by kernel_rfl)
end Go.Proofs.YtncnepmgmphanaaGreatDoor
