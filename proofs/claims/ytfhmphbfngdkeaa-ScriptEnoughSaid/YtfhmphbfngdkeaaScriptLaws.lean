/- awake and the laws ScriptDecodes, ScriptMachines, walked. -/
import Derived.Test.YtfhmphbfngdkeaaScriptRounds
import Derived.Deep.RegionHeld3
namespace Go.Proofs.Ytfhmphbfngdkeaa
open Go.RowKit Go.Maps
set_option linter.unusedVariables false

theorem pick_any (m : Int) (w : World) :
    Calls Try.prog 30 #[.int .i64 m] w fun e w' => e = .returned (.agg #[.int .i64 0, .int .i64 m]) ∧ Only [] w w' := by
  go_enter Try.func30, Try.ntmps30
  go_wp2_with fail
  first
    | (go_ret; exact ⟨rfl, Only.refl _ _⟩)
    | exact bodyPost_ret (v := .agg #[.int .i64 0, .int .i64 m]) (by simp [results, Try.results30, go_sem]) rfl ⟨rfl, (Only.refl _ _).alloc _⟩
    | exact bodyPost_ret (v := .agg #[.int .i64 0, .int .i64 m]) (by simp [results, Try.results30, go_sem]) rfl ⟨rfl, ((Only.refl _ _).alloc _).drew⟩

theorem picked_any (m : Int) (w : World) :
    Calls Try.prog 26 #[.int .i64 m] w fun e w' => e = .returned (.agg #[.int .i64 0, .int .i64 m]) ∧ Only [] w w' := by
  have A := fun w => Lib.hid (pick_any m w)
  go_enter Try.func26, Try.ntmps26
  go_wp2_with fail
  refine (A _).out.mono ?_; rintro e w1 ⟨rfl, o1⟩
  have hb := o1.keep (blk_alloc_new _ _) (by simp)
  have c0 := cell_blk hb 0
  have c1 := cell_blk hb 1
  have f0 := free_blk hb 0
  have f1 := free_blk hb 1
  simp at c0 c1
  have O1 := Lib.hid (((Only.refl [] w).alloc _).then0 o1)
  clear o1 hb
  go_wp2_with fail
  refine bodyPost_ret (v := .agg #[.int .i64 0, .int .i64 m]) (by simp [results, Try.results26, go_sem, c0, c1]) rfl ⟨rfl, ?_⟩
  exact (O1.out.setCell (p := ⟨w.heap.size, 0, none⟩) (.inr (Nat.le_refl _)) _).setCell (p := ⟨w.heap.size, 1, none⟩) (.inr (Nat.le_refl _)) _

theorem by_new {w : World} {b n : Nat} {T : TypeId} {f : Nat × Nat} (xs : List Int) (hb : w.heap[b]? = some (.cells (xs.map (Value.int .u8)).toArray T f)) (hn : xs.length = n) : By w (.slice (some ⟨b, 0, none⟩) n n) xs := by
  subst hn
  refine ⟨_, _, rfl, fun hp => ⟨b, 0, rfl, fun j hj => ?_⟩, (fun e => by cases e), Nat.le_refl _⟩
  rw [cell_blk hb]
  simp at hj
  simp [hj]
theorem en_new {w : World} {b n : Nat} {T : TypeId} {f : Nat × Nat} (l : List E) (hb : w.heap[b]? = some (.cells (flat l).toArray T f)) (hn : l.length = n) : En w (.slice (some ⟨b, 0, none⟩) n n) l := by
  subst hn
  refine ⟨_, _, rfl, fun hp => ⟨b, 0, rfl, fun j hj => ?_⟩, (fun e => by cases e), Nat.le_refl _⟩
  rw [cell_blk hb]
  simp

theorem cells4_keep {w w' : World} {b c : Nat} {v0 v1 v2 v3 : Value} (ho : Only [] w w')
    (h : w.cell? ⟨b, 0, none⟩ = some v0 ∧ w.cell? ⟨b, 1, none⟩ = some v1 ∧ w.cell? ⟨c, 0, none⟩ = some v2 ∧ w.cell? ⟨c, 1, none⟩ = some v3) :
    w'.cell? ⟨b, 0, none⟩ = some v0 ∧ w'.cell? ⟨b, 1, none⟩ = some v1 ∧ w'.cell? ⟨c, 0, none⟩ = some v2 ∧ w'.cell? ⟨c, 1, none⟩ = some v3 :=
  ⟨ho.keepCell h.1 (by simp), ho.keepCell h.2.1 (by simp), ho.keepCell h.2.2.1 (by simp), ho.keepCell h.2.2.2 (by simp)⟩

theorem rounds_six (w : World) (v : Value) (h : En w v [(0, 0), (1, 0), (0, 1), (0, 1), (0, 0), (1, 0)]) :
    Calls Try.prog 18 #[v, .int .i64 2] w fun e w' => e = .returned (.int .i64 2) ∧ Only [] w w' := by
  have := rounds_any w v _ 2 h (by simp) (by omega)
  rw [show roundsI 2 [(0, 0), (1, 0), (0, 1), (0, 1), (0, 0), (1, 0)] = 2 by decide] at this
  exact this

set_option maxRecDepth 100000 in
set_option maxHeartbeats 800000 in
theorem awake_any (w : World) : Calls Try.prog 11 #[] w fun e w' => e = .returned (.bool true) ∧ Only [] w w' := by
  have A := Lib.hid (decode_any (w.alloc (.cells #[.int .u8 0, .int .u8 5, .int .u8 1, .int .u8 9, .int .u8 2, .int .u8 200] 5)) _ [0, 5, 1, 9, 2, 200] (by_new [0, 5, 1, 9, 2, 200] (blk_alloc_new _ _) rfl) (by simp [Lit.wf, IntKind.min, IntKind.max, IntKind.signed, IntKind.bits]) (by simp))
  go_enter Try.func11, Try.ntmps11
  go_wp2_with fail
  refine A.out.mono ?_; rintro e w1 ⟨v, rfl, o1, hown⟩
  have S1 : Hid (En w1 v [(0, 5), (1, 0), (2, 200)]) := Lib.hid (en_owns hown).1
  have O1 := Lib.hid (((Only.refl [] w).alloc _).then0 o1)
  clear A o1 hown
  go_wp2_with fail
  refine (picked_any _ _).mono ?_; rintro e w2 ⟨rfl, o2⟩
  have S2 := Lib.hid (S1.out.keep o2)
  have O2 := Lib.hid (O1.out.then0 o2)
  have HS : Hid (((w2.alloc (.cells #[.int .i64 0, .int .i64 0] 35)).alloc (.cells #[.int .i64 1, .int .i64 0] 35)).cell? ⟨w2.heap.size, 0, none⟩ = some (.int .i64 0) ∧ ((w2.alloc (.cells #[.int .i64 0, .int .i64 0] 35)).alloc (.cells #[.int .i64 1, .int .i64 0] 35)).cell? ⟨w2.heap.size, 1, none⟩ = some (.int .i64 0) ∧
      ((w2.alloc (.cells #[.int .i64 0, .int .i64 0] 35)).alloc (.cells #[.int .i64 1, .int .i64 0] 35)).cell? ⟨w2.heap.size + 1, 0, none⟩ = some (.int .i64 1) ∧ ((w2.alloc (.cells #[.int .i64 0, .int .i64 0] 35)).alloc (.cells #[.int .i64 1, .int .i64 0] 35)).cell? ⟨w2.heap.size + 1, 1, none⟩ = some (.int .i64 0)) := Lib.hid (by
    have h1 := ((Only.refl [] _).alloc (.cells #[.int .i64 1, .int .i64 0] 35)).keep (blk_alloc_new w2 (.cells #[.int .i64 0, .int .i64 0] 35)) (by simp)
    have h2 := blk_alloc_new (w2.alloc (.cells #[.int .i64 0, .int .i64 0] 35)) (.cells #[.int .i64 1, .int .i64 0] 35)
    rw [show (w2.alloc (.cells #[.int .i64 0, .int .i64 0] 35)).heap.size = w2.heap.size + 1 by simp] at h2
    exact ⟨cell_blk h1 0, cell_blk h1 1, cell_blk h2 0, cell_blk h2 1⟩)
  obtain ⟨W, hW⟩ : ∃ W, W = (w2.alloc (.cells #[.int .i64 0, .int .i64 0] 35)).alloc (.cells #[.int .i64 1, .int .i64 0] 35) := ⟨_, rfl⟩
  have OW : Hid (Only [] w2 W) := Lib.hid (by rw [hW]; exact ((Only.refl [] w2).alloc _).alloc _)
  have O0 : Hid (Only [] W W.drew) := Lib.hid ((Only.refl [] W).drew)
  rw [← hW] at HS
  clear o2 S1 O1
  go_wp2_with fail
  rw [← hW]
  clear hW
  go_region_held3 (fun w' => w'.cell? ⟨w2.heap.size, 0, none⟩ = some (.int .i64 0) ∧ w'.cell? ⟨w2.heap.size, 1, none⟩ = some (.int .i64 0) ∧ w'.cell? ⟨w2.heap.size + 1, 0, none⟩ = some (.int .i64 1) ∧ w'.cell? ⟨w2.heap.size + 1, 1, none⟩ = some (.int .i64 0))
    (first | exact cells4_keep O0.out HS.out | exact cells4_keep (O0.out.alloc _) HS.out | exact cells4_keep O3.out HS.out | exact cells4_keep O4.out HS.out | exact cells4_keep O4b.out HS.out | exact cells4_keep (O4b.out.alloc _) HS.out | exact cells4_keep O5.out HS.out)
    ((first
      | (go_at_call 12; refine (same_en _ _ _ [(0, 5), (1, 0), (2, 200)] _ (S2.out.keep (OW.out.then0 (O0.out.alloc _))) (en_new [(0, 5), (1, 0), (2, 200)] (blk_alloc_new _ _) rfl) rfl (by simp)).mono ?_; rintro e w3 ⟨rfl, o3⟩; have O3 := Lib.hid ((O0.out.alloc _).then0 o3); clear o3)
      | (go_at_call 26; refine (picked_any 1 _).mono ?_; rintro e w4 ⟨rfl, o4⟩; have O4b := Lib.hid (O4.out.then0 o4); clear o4)
      | (go_at_call 26; refine (picked_any 1 _).mono ?_; rintro e w4 ⟨rfl, o4⟩; have O4 := Lib.hid (O3.out.then0 o4); clear o4)
      | (go_at_call 18; refine (rounds_six _ _ (en_new [(0, 0), (1, 0), (0, 1), (0, 1), (0, 0), (1, 0)] (blk_alloc_new _ _) rfl)).mono ?_; rintro e w5 ⟨rfl, o5⟩; have O5 := Lib.hid ((O4b.out.alloc _).then0 o5); clear o5)))
  go_wp2_with fail
  go_ret
  exact ⟨rfl, (O2.out.then0 OW.out).then0 O5.out⟩

theorem ScriptDecodes_any (w : World) (zs : List Int) (v : Value) (h : By w v zs) (hwf : ∀ z ∈ zs, (Lit.int .u8 z).wf = true) (hm : zs.length ≤ 9223372036854775807) :
    Calls Try.prog 3 #[v] w fun e w' => e = .returned (.bool true) ∧ Only [] w w' := by
  have H := Lib.hid h
  have HW := Lib.hid hwf
  obtain ⟨ao, cap, rfl, _, _, h3⟩ := h
  obtain ⟨n, hn⟩ : ∃ n, n = zs.length := ⟨_, rfl⟩
  rw [← hn] at hm h3 H ⊢
  have HN := Lib.hid hn
  clear hn hwf
  by_cases hbig : 4000 < n
  · go_enter Try.func3, Try.ntmps3
    go_wp2_with fail
    go_ret
    exact ⟨rfl, Only.refl _ _⟩
  · have HL : Hid (zs.length ≤ 4000) := Lib.hid (by have := HN.out; omega)
    go_enter Try.func3, Try.ntmps3
    go_wp2_with fail
    refine (awake_any _).mono ?_; rintro e w1 ⟨rfl, o1⟩
    have H1 := Lib.hid (H.out.keep o1)
    have O1 := Lib.hid o1
    clear o1
    go_wp2_with fail
    refine (decode_any _ _ zs H1.out HW.out (by have := HL.out; omega)).mono ?_; rintro e w2 ⟨v2, rfl, o2, s2⟩
    have H2 := Lib.hid (H1.out.keep o2)
    have S2 := Lib.hid (en_owns s2).1
    have O2 := Lib.hid (O1.out.then0 o2)
    clear o2 s2 O1 H1
    go_wp2_with fail
    refine (refDecode_any _ _ zs H2.out HW.out (by have := HL.out; omega)).mono ?_; rintro e w3 ⟨v3, rfl, o3, s3⟩
    have S3 := Lib.hid (S2.out.keep o3)
    have T3 := Lib.hid (en_owns s3).1
    have O3 := Lib.hid (O2.out.then0 o3)
    clear o3 s3 O2 H2 S2
    go_wp2_with fail
    refine (same_en _ _ _ _ _ S3.out T3.out rfl (by rw [decL_len]; have := HL.out; omega)).mono ?_; rintro e w4 ⟨rfl, o4⟩
    have O4 := Lib.hid (O3.out.then0 o4)
    clear o4 O3 S3 T3
    go_wp2_with fail
    go_ret
    exact ⟨rfl, O4.out⟩

set_option maxHeartbeats 1600000 in
theorem ScriptMachines_any (w : World) (a c : Int) (m : Int) (hm : m ≤ 9223372036854775807) (b : Bool) :
    Calls Try.prog 6 #[.agg #[.int .i64 a, .int .i64 c], .int .i64 m, .bool b] w fun e w' => e = .returned (.bool true) ∧ Only [] w w' := by
  have key : ∀ a' : Int, (b = false ∧ a' = a) ∨ (b = true ∧ a' = 0) → Calls Try.prog 6 #[.agg #[.int .i64 a, .int .i64 c], .int .i64 m, .bool b] w fun e w' => e = .returned (.bool true) ∧ Only [] w w' := by
    intro a' ha
    have A := fun w => Lib.hid (machine_any a' c m w hm)
    have B := fun w => Lib.hid (refMachine_any a' c m w hm)
    have hbd := machI_bd (a', c) m
    have hpk : ¬ (m < 1 ∨ a' ≠ 0) → 0 ≤ machI (a', c) m := fun h => by
      unfold machI
      rw [if_pos (by simp only; omega)]
      exact Int.emod_nonneg _ (by omega)
    obtain ⟨r, hr⟩ : ∃ r, r = machI (a', c) m := ⟨_, rfl⟩
    simp only [← hr] at A B hbd hpk
    obtain ⟨hb1, hb2⟩ := hbd
    clear hr hm
    rcases ha with ⟨rfl, rfl⟩ | ⟨rfl, rfl⟩
    · by_cases hm1 : m < 1
      · clear hb2 hpk
        go_enter Try.func6, Try.ntmps6
        go_wp2_with fail
        refine (A _).out.mono ?_; rintro e w1 ⟨rfl, o1⟩
        have hb := o1.keep (blk_alloc_new _ _) (by simp)
        have c0 := cell_blk hb 0
        have c1 := cell_blk hb 1
        simp at c0 c1
        have O1 := Lib.hid (((Only.refl [] w).alloc _).then0 o1)
        clear o1 hb
        go_wp2_with fail
        refine (awake_any _).mono ?_; rintro e w2 ⟨rfl, o2⟩
        have d0 := o2.keepCell c0 (by simp)
        have d1 := o2.keepCell c1 (by simp)
        have O2 := Lib.hid (O1.out.then0 o2)
        clear o2 O1
        go_wp2_with fail
        refine (B _).out.mono ?_; rintro e w3 ⟨rfl, o3⟩
        have e0 := o3.keepCell d0 (by simp)
        have O3 := Lib.hid (O2.out.then0 o3)
        clear o3 O2
        go_wp2_with fail
        go_ret
        exact ⟨rfl, O3.out⟩
      · have hr1 := hb2 (by omega)
        by_cases ha0 : a' = 0
        · have hr0 := hpk (by omega)
          subst ha0
          clear hb2 hpk
          go_enter Try.func6, Try.ntmps6
          go_wp2_with fail
          refine (A _).out.mono ?_; rintro e w1 ⟨rfl, o1⟩
          have hb := o1.keep (blk_alloc_new _ _) (by simp)
          have c0 := cell_blk hb 0
          have c1 := cell_blk hb 1
          simp at c0 c1
          have O1 := Lib.hid (((Only.refl [] w).alloc _).then0 o1)
          clear o1 hb
          go_wp2_with fail
          refine (awake_any _).mono ?_; rintro e w2 ⟨rfl, o2⟩
          have d0 := o2.keepCell c0 (by simp)
          have d1 := o2.keepCell c1 (by simp)
          have O2 := Lib.hid (O1.out.then0 o2)
          clear o2 O1
          go_wp2_with fail
          refine (B _).out.mono ?_; rintro e w3 ⟨rfl, o3⟩
          have e0 := o3.keepCell d0 (by simp)
          have O3 := Lib.hid (O2.out.then0 o3)
          clear o3 O2
          go_wp2_with fail
          go_ret
          exact ⟨rfl, O3.out⟩
        · have ha1 : (a' == 0) = false := by simpa using ha0
          have ha2 : (a' != 0) = true := by simpa using ha0
          clear hb2 hpk
          go_enter Try.func6, Try.ntmps6
          go_wp2_with fail
          refine (A _).out.mono ?_; rintro e w1 ⟨rfl, o1⟩
          have hb := o1.keep (blk_alloc_new _ _) (by simp)
          have c0 := cell_blk hb 0
          have c1 := cell_blk hb 1
          simp at c0 c1
          have O1 := Lib.hid (((Only.refl [] w).alloc _).then0 o1)
          clear o1 hb
          go_wp2_with fail
          refine (awake_any _).mono ?_; rintro e w2 ⟨rfl, o2⟩
          have d0 := o2.keepCell c0 (by simp)
          have d1 := o2.keepCell c1 (by simp)
          have O2 := Lib.hid (O1.out.then0 o2)
          clear o2 O1
          go_wp2_with fail
          refine (B _).out.mono ?_; rintro e w3 ⟨rfl, o3⟩
          have e0 := o3.keepCell d0 (by simp)
          have O3 := Lib.hid (O2.out.then0 o3)
          clear o3 O2
          go_wp2_with fail
          go_ret
          exact ⟨rfl, O3.out⟩
    · by_cases hm1 : m < 1
      · clear hb2 hpk
        go_enter Try.func6, Try.ntmps6
        go_wp2_with fail
        refine (A _).out.mono ?_; rintro e w1 ⟨rfl, o1⟩
        have hb := o1.keep (blk_alloc_new _ _) (by simp)
        have c0 := cell_blk hb 0
        have c1 := cell_blk hb 1
        simp at c0 c1
        have O1 := Lib.hid (((Only.refl [] w).alloc _).then0 o1)
        clear o1 hb
        go_wp2_with fail
        refine (awake_any _).mono ?_; rintro e w2 ⟨rfl, o2⟩
        have d0 := o2.keepCell c0 (by simp)
        have d1 := o2.keepCell c1 (by simp)
        have O2 := Lib.hid (O1.out.then0 o2)
        clear o2 O1
        go_wp2_with fail
        refine (B _).out.mono ?_; rintro e w3 ⟨rfl, o3⟩
        have e0 := o3.keepCell d0 (by simp)
        have O3 := Lib.hid (O2.out.then0 o3)
        clear o3 O2
        go_wp2_with fail
        go_ret
        exact ⟨rfl, O3.out⟩
      · have hr1 := hb2 (by omega)
        have hr0 := hpk (by omega)
        clear hb2 hpk
        go_enter Try.func6, Try.ntmps6
        go_wp2_with fail
        refine (A _).out.mono ?_; rintro e w1 ⟨rfl, o1⟩
        have hb := o1.keep (blk_alloc_new _ _) (by simp)
        have c0 := cell_blk hb 0
        have c1 := cell_blk hb 1
        simp at c0 c1
        have O1 := Lib.hid (((Only.refl [] w).alloc _).then0 o1)
        clear o1 hb
        go_wp2_with fail
        refine (awake_any _).mono ?_; rintro e w2 ⟨rfl, o2⟩
        have d0 := o2.keepCell c0 (by simp)
        have d1 := o2.keepCell c1 (by simp)
        have O2 := Lib.hid (O1.out.then0 o2)
        clear o2 O1
        go_wp2_with fail
        refine (B _).out.mono ?_; rintro e w3 ⟨rfl, o3⟩
        have e0 := o3.keepCell d0 (by simp)
        have O3 := Lib.hid (O2.out.then0 o3)
        clear o3 O2
        go_wp2_with fail
        go_ret
        exact ⟨rfl, O3.out⟩
  cases b with
  | false => exact key a (.inl ⟨rfl, rfl⟩)
  | true => exact key 0 (.inr ⟨rfl, rfl⟩)
end Go.Proofs.Ytfhmphbfngdkeaa
