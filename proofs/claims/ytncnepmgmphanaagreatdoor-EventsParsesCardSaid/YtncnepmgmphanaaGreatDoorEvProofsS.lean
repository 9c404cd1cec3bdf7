/- The statement EventsParses of chapter 07: the law returns true for every input, by the tied card. No condition. -/
import Derived.Test.YtncnepmgmphanaaGreatDoorMg23
import Derived.Test.YtncnepmgmphanaaGreatDoorMg29
import Derived.Lay
import Derived.ProofKit
import Derived.OpenShut
set_option linter.unusedVariables false
set_option linter.unusedSimpArgs false
set_option linter.unusedSectionVars false
namespace Go.Proofs.YtncnepmgmphanaaGreatDoor
open Go.ChangeShapes Go.WideShapes Go.ChangeAt Go.RowKit Go.Lib
set_option maxRecDepth 100000 in
theorem CJ : Pm 4 Tryz.f4 := by
 intro H enc W base args ds ps hval hA hT
 rw [Tryz.params4] at hA hval
 obtain ⟨v0, Ti, d0, ds0, p0, q0, hargs, rfl, rfl, h0, r0⟩ := trodAll_cons hA
 obtain ⟨v1, vs1, d1, ds1, p1, q1, rfl, rfl, rfl, h1, r1⟩ := trodAll_cons r0
 obtain ⟨v2, vs2, d2, ds2, p2, q2, rfl, rfl, rfl, h2, r2⟩ := trodAll_cons r1
 obtain ⟨v3, vs3, d3, ds3, p3, q3, rfl, rfl, rfl, h3, r3⟩ := trodAll_cons r2
 obtain ⟨rfl, rfl, rfl⟩ := trodAll_nil r3
 obtain rfl : args = #[v0, v1, v2, v3] := by cases args; simp_all
 obtain ⟨s0, rfl, -, -, hs0⟩ := Go.ChangeMaps.open_string Tryz.underlying9 (hval 0 9 v0 rfl rfl) h0
 obtain ⟨Tu, nb1, ahJ, rfl, hb1, hn1⟩ := Fv (hval 1 23 v1 rfl rfl) h1
 obtain ⟨Qz, nb2, cap2, rfl, hb2, hn2⟩ := Fv (hval 2 23 v2 rfl rfl) h2
 obtain ⟨zs3, hz3, hn3⟩ := Yv (hval 3 29 v3 rfl rfl) h3
 exact Dm W hT s0 hs0 Tu nb1 ahJ hb1 hn1 Qz nb2 cap2 hb2 hn2 v3 zs3 hz3 hn3
set_option maxRecDepth 100000 in
theorem xe (os : Os) (started : os.Started) (H : Type) (enc : TypeId × Value → H) :
   ReturnsInHanded {} Tryz.checked os 4 .any (fun w args => (Rows.eventsParsesSpec.pre enc Tryz.prog Tryz.f4 [] false w args ∧ laidMetH Tryz.prog pV w) ∧ sizedMet enc Tryz.prog Tryz.f4 (OpenSpec.ofChange Rows.eventsParsesSpec) false w args)
     (Rows.eventsParsesSpec.post enc Tryz.prog Tryz.f4 false true false false) :=
 OI (enc := enc) (s := Rows.eventsParsesSpec) started (by kernel_rfl) Tryz.func4 rfl
     (ChangeSpec.witness_shaped (enc := enc) (C := Tryz.checked) (os := os) (X := fun w _ => laidMetH Tryz.prog pV w) false (World.laidAll Tryz.prog os pV) #[.string ⟨#[]⟩, .slice none 0 0, .slice none 0 0, .slice none 0 0] 8 (World.laidAll_os _ _ _) (World.shaped_of_ZipB (by kernel_rfl) (by kernel_rfl)) (by kernel_rfl) (by kernel_rfl) (by kernel_rfl)
     (by rw [MakeChecks.laidMetH_plain _ _ _ (by kernel_rfl)]; exact laidMet_laidAll _ (by kernel_rfl) (by kernel_rfl)))
     rfl (LV (by kernel_rfl))
     (by intro ds h; rw [Tryz.params4] at h; match ds, h with | [x0, x1, x2, x3], _ => exact ⟨rfl, rfl, rfl⟩)
     CJ
theorem BV : Rows.EventsParsesSaid :=
 OpenClaim.holds_of_wide 4 Tryz.f4 rfl rfl rfl rfl rfl rfl rfl ⟨rfl, rfl, rfl, rfl, rfl⟩ rfl rfl rfl rfl rfl (by kernel_rfl) Tryz.func4 (by kernel_rfl)
   (of_decide_eq_true (by kernel_rfl)) (by unfold Func.isWrapper; first | (rw [if_pos (by decide +kernel)]; kernel_rfl) | (rw [if_neg (by decide +kernel)]; exact ⟨rfl, rfl⟩))
   (fun os started H enc _ => xe os started H enc)
theorem EventsParses_holds : Rows.EventsParsesCardSaid :=
 Claim7.holds_tied_plain_at .later [] [.data, .data, .data, .data, .sentinel, .sentinel, .pinned] true (true, "0ce8cb4dc93a482967cf9ed3c9be0d19b91dab9e53a58507716f9634ecc744d4") true
   BV (fun _ h => by cases h) (by kernel_rfl) (fun _ h => by cases h) eventsParses_row_tie rfl ⟨rfl, rfl⟩ (by kernel_rfl) rfl
   (fun f fn hf hfn => by
     obtain rfl : f = 4 := Option.some.inj ((show Tryz.prog.funcNamed "worksteal/worksteallaw07.EventsParses" = some 4 by kernel_rfl).symm.trans hf) |>.symm
     obtain rfl : fn = Tryz.f4 := (Option.some.inj (Tryz.func4.symm.trans hfn)).symm
     exact ⟨by kernel_rfl, fun j t ht => by
       rw [Tryz.params4] at ht
       exact KO (ts := Tryz.f4.params) (by kernel_rfl) j t (by rw [Tryz.params4]; exact ht)⟩)
   (by kernel_rfl)
end Go.Proofs.YtncnepmgmphanaaGreatDoor
