/- The statements WordsBits, WordsSpans, WordsCuts, WordsOrder, WordsKeys, WordsClasses of chapter 1 (words): each law returns true for every input; the cards are tied. No condition beside the library's table, which the card ties to the program's text. -/
import Derived.Test.YtmoegebikfchjaaDoorLawLaid
import Derived.Test.YtmoegebikfchjaaDoorWordsLaws2
import Derived.Test.YtmoegebikfchjaaDoorWordsLaws3
import Derived.Test.YtmoegebikfchjaaDoorWordsLaws4
namespace Go.Proofs.YtmoegebikfchjaaDoor
open Go.ChangeShapes Go.WideShapes Go.ChangeAt Go.RowKit
set_option linter.unusedVariables false

theorem WordsBits_law : LawWalkT 3 Tryd.f3 := by
  intro H enc W base args ds ps hval hA hT
  rw [Tryd.params3] at hA hval
  obtain ⟨v0, vs0, d0, ds0, p0, q0, hargs, rfl, rfl, h0, r0⟩ := trodAll_cons hA
  obtain ⟨v1, vs1, d1, ds1, p1, q1, rfl, rfl, rfl, h1, r1⟩ := trodAll_cons r0
  obtain ⟨rfl, rfl, rfl⟩ := trodAll_nil r1
  obtain rfl : args = #[v0, v1] := by cases args; simp_all
  obtain ⟨z0, rfl, rfl, rfl, w0⟩ := open_int Tryd.underlying22 (hval 0 22 v0 rfl rfl) h0
  obtain ⟨a0, rfl⟩ := Int.eq_ofNat_of_zero_le (wf_u64 w0).1
  obtain ⟨a1, rfl, rfl, rfl, w1⟩ := open_int Tryd.underlying3 (hval 1 3 v1 rfl rfl) h1
  exact WordsBits_any W a0 (by have := (wf_u64 w0).2; omega) a1 (wf_i64 w1).1 (wf_i64 w1).2 hT

set_option maxRecDepth 100000 in
theorem WordsBits_lifted (os : Os) (started : os.Started) (H : Type) (enc : TypeId × Value → H) :
    ReturnsInHanded {} Tryd.checked os 3 .any (fun w args => (Rows.wordsBitsSpec.pre enc Tryd.prog Tryd.f3 [] false w args ∧ laidMetH Tryd.prog laid1 w) ∧ sizedMet enc Tryd.prog Tryd.f3 (OpenSpec.ofChange Rows.wordsBitsSpec) false w args)
      (Rows.wordsBitsSpec.post enc Tryd.prog Tryd.f3 false true false false) :=
  law_lifted_laid (enc := enc) (s := Rows.wordsBitsSpec) started (by kernel_rfl) Tryd.func3 rfl
      (ChangeSpec.witness_shaped (enc := enc) (C := Tryd.checked) (os := os) (X := fun w _ => laidMetH Tryd.prog laid1 w) false (World.doorLaid Tryd.prog 600 os) #[.int .u64 0, .int .i64 0] 8 rfl (World.shaped_of_RefB (by kernel_rfl) (by kernel_rfl)) (by kernel_rfl) (by kernel_rfl) (by kernel_rfl) (door_met os _))
      rfl (readable_all (by kernel_rfl))
      (by intro ds h; rw [Tryd.params3] at h; match ds, h with | [x0, x1], _ => exact ⟨rfl, rfl, rfl⟩)
      WordsBits_law

theorem WordsBits_row : Rows.WordsBitsSaid :=
  OpenClaim.holds_of_wide 3 Tryd.f3 rfl rfl rfl rfl rfl rfl rfl ⟨rfl, rfl, rfl, rfl, rfl⟩ rfl rfl rfl rfl rfl (by kernel_rfl) Tryd.func3 (by kernel_rfl)
    (of_decide_eq_true (by kernel_rfl)) (by unfold Func.isWrapper; first | (rw [if_pos (by decide +kernel)]; kernel_rfl) | (rw [if_neg (by decide +kernel)]; exact ⟨rfl, rfl⟩))
    (fun os started H enc _ => WordsBits_lifted os started H enc)

theorem WordsBits_holds : Rows.WordsBitsCardSaid :=
  Claim7.holds_tied_plain_at .later [] [.data] true (true, "278f9facdca4cb1e0c71854f3ccffe5c366b927981010ba4af17d52eed0cc7b0") false
    WordsBits_row (fun _ h => by cases h) (by kernel_rfl) (fun _ h => by cases h) wordsBits_row_tie rfl ⟨rfl, rfl⟩ (by kernel_rfl) rfl
    (fun f fn hf hfn => by
      obtain rfl : f = 3 := Option.some.inj ((show Tryd.prog.funcNamed "worksteal/worksteallaw01.WordsBits" = some 3 by kernel_rfl).symm.trans hf) |>.symm
      obtain rfl : fn = Tryd.f3 := (Option.some.inj (Tryd.func3.symm.trans hfn)).symm
      exact ⟨by kernel_rfl, fun j t ht => by
        rw [Tryd.params3] at ht
        exact standIns_none (ts := Tryd.f3.params) (by kernel_rfl) j t (by rw [Tryd.params3]; exact ht)⟩)
    (by kernel_rfl)


theorem WordsSpans_law : LawWalkT 4 Tryd.f4 := by
  intro H enc W base args ds ps hval hA hT
  rw [Tryd.params4] at hA hval
  obtain ⟨v0, vs0, d0, ds0, p0, q0, hargs, rfl, rfl, h0, r0⟩ := trodAll_cons hA
  obtain ⟨v1, vs1, d1, ds1, p1, q1, rfl, rfl, rfl, h1, r1⟩ := trodAll_cons r0
  obtain ⟨v2, vs2, d2, ds2, p2, q2, rfl, rfl, rfl, h2, r2⟩ := trodAll_cons r1
  obtain ⟨rfl, rfl, rfl⟩ := trodAll_nil r2
  obtain rfl : args = #[v0, v1, v2] := by cases args; simp_all
  obtain ⟨a0, rfl, rfl, rfl, w0⟩ := open_int Tryd.underlying3 (hval 0 3 v0 rfl rfl) h0
  obtain ⟨a1, rfl, rfl, rfl, w1⟩ := open_int Tryd.underlying3 (hval 1 3 v1 rfl rfl) h1
  obtain ⟨a2, rfl, rfl, rfl⟩ := open_bool Tryd.underlying4 (hval 2 4 v2 rfl rfl) h2
  exact WordsSpans_any W a0 (wf_i64 w0).1 (wf_i64 w0).2 a1 (wf_i64 w1).1 (wf_i64 w1).2 a2 hT

set_option maxRecDepth 100000 in
theorem WordsSpans_lifted (os : Os) (started : os.Started) (H : Type) (enc : TypeId × Value → H) :
    ReturnsInHanded {} Tryd.checked os 4 .any (fun w args => (Rows.wordsSpansSpec.pre enc Tryd.prog Tryd.f4 [] false w args ∧ laidMetH Tryd.prog laid1 w) ∧ sizedMet enc Tryd.prog Tryd.f4 (OpenSpec.ofChange Rows.wordsSpansSpec) false w args)
      (Rows.wordsSpansSpec.post enc Tryd.prog Tryd.f4 false true false false) :=
  law_lifted_laid (enc := enc) (s := Rows.wordsSpansSpec) started (by kernel_rfl) Tryd.func4 rfl
      (ChangeSpec.witness_shaped (enc := enc) (C := Tryd.checked) (os := os) (X := fun w _ => laidMetH Tryd.prog laid1 w) false (World.doorLaid Tryd.prog 600 os) #[.int .i64 0, .int .i64 0, .bool false] 8 rfl (World.shaped_of_RefB (by kernel_rfl) (by kernel_rfl)) (by kernel_rfl) (by kernel_rfl) (by kernel_rfl) (door_met os _))
      rfl (readable_all (by kernel_rfl))
      (by intro ds h; rw [Tryd.params4] at h; match ds, h with | [x0, x1, x2], _ => exact ⟨rfl, rfl, rfl⟩)
      WordsSpans_law

theorem WordsSpans_row : Rows.WordsSpansSaid :=
  OpenClaim.holds_of_wide 4 Tryd.f4 rfl rfl rfl rfl rfl rfl rfl ⟨rfl, rfl, rfl, rfl, rfl⟩ rfl rfl rfl rfl rfl (by kernel_rfl) Tryd.func4 (by kernel_rfl)
    (of_decide_eq_true (by kernel_rfl)) (by unfold Func.isWrapper; first | (rw [if_pos (by decide +kernel)]; kernel_rfl) | (rw [if_neg (by decide +kernel)]; exact ⟨rfl, rfl⟩))
    (fun os started H enc _ => WordsSpans_lifted os started H enc)

theorem WordsSpans_holds : Rows.WordsSpansCardSaid :=
  Claim7.holds_tied_plain_at .later [] [.data] true (true, "278f9facdca4cb1e0c71854f3ccffe5c366b927981010ba4af17d52eed0cc7b0") false
    WordsSpans_row (fun _ h => by cases h) (by kernel_rfl) (fun _ h => by cases h) wordsSpans_row_tie rfl ⟨rfl, rfl⟩ (by kernel_rfl) rfl
    (fun f fn hf hfn => by
      obtain rfl : f = 4 := Option.some.inj ((show Tryd.prog.funcNamed "worksteal/worksteallaw01.WordsSpans" = some 4 by kernel_rfl).symm.trans hf) |>.symm
      obtain rfl : fn = Tryd.f4 := (Option.some.inj (Tryd.func4.symm.trans hfn)).symm
      exact ⟨by kernel_rfl, fun j t ht => by
        rw [Tryd.params4] at ht
        exact standIns_none (ts := Tryd.f4.params) (by kernel_rfl) j t (by rw [Tryd.params4]; exact ht)⟩)
    (by kernel_rfl)


theorem WordsCuts_law : LawWalkT 5 Tryd.f5 := by
  intro H enc W base args ds ps hval hA hT
  rw [Tryd.params5] at hA hval
  obtain ⟨v0, vs0, d0, ds0, p0, q0, hargs, rfl, rfl, h0, r0⟩ := trodAll_cons hA
  obtain ⟨v1, vs1, d1, ds1, p1, q1, rfl, rfl, rfl, h1, r1⟩ := trodAll_cons r0
  obtain ⟨rfl, rfl, rfl⟩ := trodAll_nil r1
  obtain rfl : args = #[v0, v1] := by cases args; simp_all
  obtain ⟨z0, rfl, rfl, rfl, w0⟩ := open_int Tryd.underlying22 (hval 0 22 v0 rfl rfl) h0
  obtain ⟨a0, rfl⟩ := Int.eq_ofNat_of_zero_le (wf_u64 w0).1
  obtain ⟨a1, rfl, rfl, rfl, w1⟩ := open_int Tryd.underlying3 (hval 1 3 v1 rfl rfl) h1
  exact WordsCuts_any W a0 (by have := (wf_u64 w0).2; omega) a1 hT

set_option maxRecDepth 100000 in
theorem WordsCuts_lifted (os : Os) (started : os.Started) (H : Type) (enc : TypeId × Value → H) :
    ReturnsInHanded {} Tryd.checked os 5 .any (fun w args => (Rows.wordsCutsSpec.pre enc Tryd.prog Tryd.f5 [] false w args ∧ laidMetH Tryd.prog laid1 w) ∧ sizedMet enc Tryd.prog Tryd.f5 (OpenSpec.ofChange Rows.wordsCutsSpec) false w args)
      (Rows.wordsCutsSpec.post enc Tryd.prog Tryd.f5 false true false false) :=
  law_lifted_laid (enc := enc) (s := Rows.wordsCutsSpec) started (by kernel_rfl) Tryd.func5 rfl
      (ChangeSpec.witness_shaped (enc := enc) (C := Tryd.checked) (os := os) (X := fun w _ => laidMetH Tryd.prog laid1 w) false (World.doorLaid Tryd.prog 600 os) #[.int .u64 0, .int .i64 0] 8 rfl (World.shaped_of_RefB (by kernel_rfl) (by kernel_rfl)) (by kernel_rfl) (by kernel_rfl) (by kernel_rfl) (door_met os _))
      rfl (readable_all (by kernel_rfl))
      (by intro ds h; rw [Tryd.params5] at h; match ds, h with | [x0, x1], _ => exact ⟨rfl, rfl, rfl⟩)
      WordsCuts_law

theorem WordsCuts_row : Rows.WordsCutsSaid :=
  OpenClaim.holds_of_wide 5 Tryd.f5 rfl rfl rfl rfl rfl rfl rfl ⟨rfl, rfl, rfl, rfl, rfl⟩ rfl rfl rfl rfl rfl (by kernel_rfl) Tryd.func5 (by kernel_rfl)
    (of_decide_eq_true (by kernel_rfl)) (by unfold Func.isWrapper; first | (rw [if_pos (by decide +kernel)]; kernel_rfl) | (rw [if_neg (by decide +kernel)]; exact ⟨rfl, rfl⟩))
    (fun os started H enc _ => WordsCuts_lifted os started H enc)

theorem WordsCuts_holds : Rows.WordsCutsCardSaid :=
  Claim7.holds_tied_plain_at .later [] [.data] true (true, "278f9facdca4cb1e0c71854f3ccffe5c366b927981010ba4af17d52eed0cc7b0") false
    WordsCuts_row (fun _ h => by cases h) (by kernel_rfl) (fun _ h => by cases h) wordsCuts_row_tie rfl ⟨rfl, rfl⟩ (by kernel_rfl) rfl
    (fun f fn hf hfn => by
      obtain rfl : f = 5 := Option.some.inj ((show Tryd.prog.funcNamed "worksteal/worksteallaw01.WordsCuts" = some 5 by kernel_rfl).symm.trans hf) |>.symm
      obtain rfl : fn = Tryd.f5 := (Option.some.inj (Tryd.func5.symm.trans hfn)).symm
      exact ⟨by kernel_rfl, fun j t ht => by
        rw [Tryd.params5] at ht
        exact standIns_none (ts := Tryd.f5.params) (by kernel_rfl) j t (by rw [Tryd.params5]; exact ht)⟩)
    (by kernel_rfl)


theorem WordsOrder_law : LawWalkT 6 Tryd.f6 := by
  intro H enc W base args ds ps hval hA hT
  rw [Tryd.params6] at hA hval
  obtain ⟨v0, vs0, d0, ds0, p0, q0, hargs, rfl, rfl, h0, r0⟩ := trodAll_cons hA
  obtain ⟨rfl, rfl, rfl⟩ := trodAll_nil r0
  obtain rfl : args = #[v0] := by cases args; simp_all
  obtain ⟨z0, rfl, rfl, rfl, w0⟩ := open_int Tryd.underlying22 (hval 0 22 v0 rfl rfl) h0
  obtain ⟨a0, rfl⟩ := Int.eq_ofNat_of_zero_le (wf_u64 w0).1
  exact WordsOrder_any W a0 (by have := (wf_u64 w0).2; omega) hT

set_option maxRecDepth 100000 in
theorem WordsOrder_lifted (os : Os) (started : os.Started) (H : Type) (enc : TypeId × Value → H) :
    ReturnsInHanded {} Tryd.checked os 6 .any (fun w args => (Rows.wordsOrderSpec.pre enc Tryd.prog Tryd.f6 [] false w args ∧ laidMetH Tryd.prog laid1 w) ∧ sizedMet enc Tryd.prog Tryd.f6 (OpenSpec.ofChange Rows.wordsOrderSpec) false w args)
      (Rows.wordsOrderSpec.post enc Tryd.prog Tryd.f6 false true false false) :=
  law_lifted_laid (enc := enc) (s := Rows.wordsOrderSpec) started (by kernel_rfl) Tryd.func6 rfl
      (ChangeSpec.witness_shaped (enc := enc) (C := Tryd.checked) (os := os) (X := fun w _ => laidMetH Tryd.prog laid1 w) false (World.doorLaid Tryd.prog 600 os) #[.int .u64 0] 8 rfl (World.shaped_of_RefB (by kernel_rfl) (by kernel_rfl)) (by kernel_rfl) (by kernel_rfl) (by kernel_rfl) (door_met os _))
      rfl (readable_all (by kernel_rfl))
      (by intro ds h; rw [Tryd.params6] at h; match ds, h with | [x0], _ => exact ⟨rfl, rfl, rfl⟩)
      WordsOrder_law

theorem WordsOrder_row : Rows.WordsOrderSaid :=
  OpenClaim.holds_of_wide 6 Tryd.f6 rfl rfl rfl rfl rfl rfl rfl ⟨rfl, rfl, rfl, rfl, rfl⟩ rfl rfl rfl rfl rfl (by kernel_rfl) Tryd.func6 (by kernel_rfl)
    (of_decide_eq_true (by kernel_rfl)) (by unfold Func.isWrapper; first | (rw [if_pos (by decide +kernel)]; kernel_rfl) | (rw [if_neg (by decide +kernel)]; exact ⟨rfl, rfl⟩))
    (fun os started H enc _ => WordsOrder_lifted os started H enc)

theorem WordsOrder_holds : Rows.WordsOrderCardSaid :=
  Claim7.holds_tied_plain_at .later [] [.data] true (true, "278f9facdca4cb1e0c71854f3ccffe5c366b927981010ba4af17d52eed0cc7b0") false
    WordsOrder_row (fun _ h => by cases h) (by kernel_rfl) (fun _ h => by cases h) wordsOrder_row_tie rfl ⟨rfl, rfl⟩ (by kernel_rfl) rfl
    (fun f fn hf hfn => by
      obtain rfl : f = 6 := Option.some.inj ((show Tryd.prog.funcNamed "worksteal/worksteallaw01.WordsOrder" = some 6 by kernel_rfl).symm.trans hf) |>.symm
      obtain rfl : fn = Tryd.f6 := (Option.some.inj (Tryd.func6.symm.trans hfn)).symm
      exact ⟨by kernel_rfl, fun j t ht => by
        rw [Tryd.params6] at ht
        exact standIns_none (ts := Tryd.f6.params) (by kernel_rfl) j t (by rw [Tryd.params6]; exact ht)⟩)
    (by kernel_rfl)


theorem WordsKeys_law : LawWalkT 9 Tryd.f9 := by
  intro H enc W base args ds ps hval hA hT
  rw [Tryd.params9] at hA hval
  obtain ⟨v0, vs0, d0, ds0, p0, q0, hargs, rfl, rfl, h0, r0⟩ := trodAll_cons hA
  obtain ⟨v1, vs1, d1, ds1, p1, q1, rfl, rfl, rfl, h1, r1⟩ := trodAll_cons r0
  obtain ⟨v2, vs2, d2, ds2, p2, q2, rfl, rfl, rfl, h2, r2⟩ := trodAll_cons r1
  obtain ⟨v3, vs3, d3, ds3, p3, q3, rfl, rfl, rfl, h3, r3⟩ := trodAll_cons r2
  obtain ⟨v4, vs4, d4, ds4, p4, q4, rfl, rfl, rfl, h4, r4⟩ := trodAll_cons r3
  obtain ⟨rfl, rfl, rfl⟩ := trodAll_nil r4
  obtain rfl : args = #[v0, v1, v2, v3, v4] := by cases args; simp_all
  obtain ⟨a0, rfl, rfl, rfl, w0⟩ := open_int Tryd.underlying3 (hval 0 3 v0 rfl rfl) h0
  obtain ⟨a1, rfl, rfl, rfl, w1⟩ := open_int Tryd.underlying3 (hval 1 3 v1 rfl rfl) h1
  obtain ⟨a2, rfl, rfl, rfl, w2⟩ := open_int Tryd.underlying3 (hval 2 3 v2 rfl rfl) h2
  obtain ⟨z3, rfl, rfl, rfl, w3⟩ := open_int Tryd.underlying22 (hval 3 22 v3 rfl rfl) h3
  obtain ⟨a3, rfl⟩ := Int.eq_ofNat_of_zero_le (wf_u64 w3).1
  obtain ⟨a4, rfl, rfl, rfl⟩ := open_bool Tryd.underlying4 (hval 4 4 v4 rfl rfl) h4
  exact WordsKeys_any W a0 a1 a2 a3 (by have := (wf_u64 w3).2; omega) a4 hT

set_option maxRecDepth 100000 in
theorem WordsKeys_lifted (os : Os) (started : os.Started) (H : Type) (enc : TypeId × Value → H) :
    ReturnsInHanded {} Tryd.checked os 9 .any (fun w args => (Rows.wordsKeysSpec.pre enc Tryd.prog Tryd.f9 [] false w args ∧ laidMetH Tryd.prog laid1 w) ∧ sizedMet enc Tryd.prog Tryd.f9 (OpenSpec.ofChange Rows.wordsKeysSpec) false w args)
      (Rows.wordsKeysSpec.post enc Tryd.prog Tryd.f9 false true false false) :=
  law_lifted_laid (enc := enc) (s := Rows.wordsKeysSpec) started (by kernel_rfl) Tryd.func9 rfl
      (ChangeSpec.witness_shaped (enc := enc) (C := Tryd.checked) (os := os) (X := fun w _ => laidMetH Tryd.prog laid1 w) false (World.doorLaid Tryd.prog 600 os) #[.int .i64 0, .int .i64 0, .int .i64 0, .int .u64 0, .bool false] 8 rfl (World.shaped_of_RefB (by kernel_rfl) (by kernel_rfl)) (by kernel_rfl) (by kernel_rfl) (by kernel_rfl) (door_met os _))
      rfl (readable_all (by kernel_rfl))
      (by intro ds h; rw [Tryd.params9] at h; match ds, h with | [x0, x1, x2, x3, x4], _ => exact ⟨rfl, rfl, rfl⟩)
      WordsKeys_law

theorem WordsKeys_row : Rows.WordsKeysSaid :=
  OpenClaim.holds_of_wide 9 Tryd.f9 rfl rfl rfl rfl rfl rfl rfl ⟨rfl, rfl, rfl, rfl, rfl⟩ rfl rfl rfl rfl rfl (by kernel_rfl) Tryd.func9 (by kernel_rfl)
    (of_decide_eq_true (by kernel_rfl)) (by unfold Func.isWrapper; first | (rw [if_pos (by decide +kernel)]; kernel_rfl) | (rw [if_neg (by decide +kernel)]; exact ⟨rfl, rfl⟩))
    (fun os started H enc _ => WordsKeys_lifted os started H enc)

theorem WordsKeys_holds : Rows.WordsKeysCardSaid :=
  Claim7.holds_tied_plain_at .later [] [.data] true (true, "278f9facdca4cb1e0c71854f3ccffe5c366b927981010ba4af17d52eed0cc7b0") false
    WordsKeys_row (fun _ h => by cases h) (by kernel_rfl) (fun _ h => by cases h) wordsKeys_row_tie rfl ⟨rfl, rfl⟩ (by kernel_rfl) rfl
    (fun f fn hf hfn => by
      obtain rfl : f = 9 := Option.some.inj ((show Tryd.prog.funcNamed "worksteal/worksteallaw01.WordsKeys" = some 9 by kernel_rfl).symm.trans hf) |>.symm
      obtain rfl : fn = Tryd.f9 := (Option.some.inj (Tryd.func9.symm.trans hfn)).symm
      exact ⟨by kernel_rfl, fun j t ht => by
        rw [Tryd.params9] at ht
        exact standIns_none (ts := Tryd.f9.params) (by kernel_rfl) j t (by rw [Tryd.params9]; exact ht)⟩)
    (by kernel_rfl)


theorem WordsClasses_law : LawWalkT 7 Tryd.f7 := by
  intro H enc W base args ds ps hval hA hT
  rw [Tryd.params7] at hA hval
  obtain ⟨v0, vs0, d0, ds0, p0, q0, hargs, rfl, rfl, h0, r0⟩ := trodAll_cons hA
  obtain ⟨v1, vs1, d1, ds1, p1, q1, rfl, rfl, rfl, h1, r1⟩ := trodAll_cons r0
  obtain ⟨v2, vs2, d2, ds2, p2, q2, rfl, rfl, rfl, h2, r2⟩ := trodAll_cons r1
  obtain ⟨v3, vs3, d3, ds3, p3, q3, rfl, rfl, rfl, h3, r3⟩ := trodAll_cons r2
  obtain ⟨rfl, rfl, rfl⟩ := trodAll_nil r3
  obtain rfl : args = #[v0, v1, v2, v3] := by cases args; simp_all
  obtain ⟨a0, rfl, rfl, rfl, w0⟩ := open_int Tryd.underlying3 (hval 0 3 v0 rfl rfl) h0
  obtain ⟨a1, rfl, rfl, rfl, w1⟩ := open_int Tryd.underlying3 (hval 1 3 v1 rfl rfl) h1
  obtain ⟨a2, rfl, rfl, rfl, w2⟩ := open_int Tryd.underlying3 (hval 2 3 v2 rfl rfl) h2
  obtain ⟨a3, rfl, rfl, rfl⟩ := open_bool Tryd.underlying4 (hval 3 4 v3 rfl rfl) h3
  exact WordsClasses_any W a0 a1 a2 a3 hT

set_option maxRecDepth 100000 in
theorem WordsClasses_lifted (os : Os) (started : os.Started) (H : Type) (enc : TypeId × Value → H) :
    ReturnsInHanded {} Tryd.checked os 7 .any (fun w args => (Rows.wordsClassesSpec.pre enc Tryd.prog Tryd.f7 [] false w args ∧ laidMetH Tryd.prog laid1 w) ∧ sizedMet enc Tryd.prog Tryd.f7 (OpenSpec.ofChange Rows.wordsClassesSpec) false w args)
      (Rows.wordsClassesSpec.post enc Tryd.prog Tryd.f7 false true false false) :=
  law_lifted_laid (enc := enc) (s := Rows.wordsClassesSpec) started (by kernel_rfl) Tryd.func7 rfl
      (ChangeSpec.witness_shaped (enc := enc) (C := Tryd.checked) (os := os) (X := fun w _ => laidMetH Tryd.prog laid1 w) false (World.doorLaid Tryd.prog 600 os) #[.int .i64 0, .int .i64 0, .int .i64 0, .bool false] 8 rfl (World.shaped_of_RefB (by kernel_rfl) (by kernel_rfl)) (by kernel_rfl) (by kernel_rfl) (by kernel_rfl) (door_met os _))
      rfl (readable_all (by kernel_rfl))
      (by intro ds h; rw [Tryd.params7] at h; match ds, h with | [x0, x1, x2, x3], _ => exact ⟨rfl, rfl, rfl⟩)
      WordsClasses_law

theorem WordsClasses_row : Rows.WordsClassesSaid :=
  OpenClaim.holds_of_wide 7 Tryd.f7 rfl rfl rfl rfl rfl rfl rfl ⟨rfl, rfl, rfl, rfl, rfl⟩ rfl rfl rfl rfl rfl (by kernel_rfl) Tryd.func7 (by kernel_rfl)
    (of_decide_eq_true (by kernel_rfl)) (by unfold Func.isWrapper; first | (rw [if_pos (by decide +kernel)]; kernel_rfl) | (rw [if_neg (by decide +kernel)]; exact ⟨rfl, rfl⟩))
    (fun os started H enc _ => WordsClasses_lifted os started H enc)

theorem WordsClasses_holds : Rows.WordsClassesCardSaid :=
  Claim7.holds_tied_plain_at .later [] [.data] true (true, "278f9facdca4cb1e0c71854f3ccffe5c366b927981010ba4af17d52eed0cc7b0") false
    WordsClasses_row (fun _ h => by cases h) (by kernel_rfl) (fun _ h => by cases h) wordsClasses_row_tie rfl ⟨rfl, rfl⟩ (by kernel_rfl) rfl
    (fun f fn hf hfn => by
      obtain rfl : f = 7 := Option.some.inj ((show Tryd.prog.funcNamed "worksteal/worksteallaw01.WordsClasses" = some 7 by kernel_rfl).symm.trans hf) |>.symm
      obtain rfl : fn = Tryd.f7 := (Option.some.inj (Tryd.func7.symm.trans hfn)).symm
      exact ⟨by kernel_rfl, fun j t ht => by
        rw [Tryd.params7] at ht
        exact standIns_none (ts := Tryd.f7.params) (by kernel_rfl) j t (by rw [Tryd.params7]; exact ht)⟩)
    (by kernel_rfl)


end Go.Proofs.YtmoegebikfchjaaDoor
