/- The line of a valid event, walked. No condition beside the library's variables. -/
import Derived.Test.YtncnepmgmphanaaDoorEvLib
import Derived.Deep.RegionHeld3
namespace Go.Proofs.YtncnepmgmphanaaDoor
open Go.RowKit
set_option linter.unusedVariables false
set_option linter.unusedSimpArgs false

/-- The line of an event: its word, the used fields, a line feed. -/
def segB (e : Ev) (f : EForm) (k : Nat) : List UInt8 := if usAt f k then 32 :: Lib.itoa (flAt e k) else []
def lineTo (e : Ev) (f : EForm) : Nat → List UInt8
  | 0 => f.word
  | k + 1 => lineTo e f k ++ segB e f k
def lineB (e : Ev) : List UInt8 := lineTo e (formAt (e.kind - 1).toNat) 4 ++ [10]

theorem dec_len {u : Nat} (h : u < 1000) : (Lib.decDigits u).length ≤ 3 := by
  rw [Lib.decDigits]
  split
  · simp
  · rw [Lib.decDigits]
    split
    · simp
    · rw [Lib.decDigits]
      split
      · simp
      · omega
theorem itoa_len {x : Int} (h0 : 0 ≤ x) (h1 : x ≤ 256) : (Lib.itoa x).length ≤ 3 := by
  unfold Lib.itoa
  rw [if_neg (by omega)]
  exact dec_len (by omega)
theorem word_len (i : Nat) : (formAt i).word.length ≤ 6 := by
  by_cases h : i < 19
  · rcases nat19 h with rfl | rfl | rfl | rfl | rfl | rfl | rfl | rfl | rfl | rfl | rfl | rfl | rfl | rfl | rfl | rfl | rfl | rfl | rfl <;> decide
  · have : formAt i = ⟨[], false, false, false⟩ := by unfold formAt; rw [List.getD_eq_getElem?_getD, List.getElem?_eq_none (by simp [evForms]; omega)]; rfl
    rw [this]; simp
theorem bytes_app (a b : List UInt8) : (⟨a.toArray⟩ : ByteArray) ++ ⟨b.toArray⟩ = ⟨(a ++ b).toArray⟩ := by
  apply ByteArray.ext
  simp
theorem size_list (a : List UInt8) : (⟨a.toArray⟩ : ByteArray).size = a.length := by simp [ByteArray.size]

theorem valid_parts {e : Ev} (h : validB e = true) : 1 ≤ e.kind ∧ e.kind ≤ 19 ∧ ∀ k, k < 4 → 0 ≤ flAt e k ∧ flAt e k ≤ 256 := by
  simp [validB, fldOK] at h
  refine ⟨by omega, by omega, fun k hk => ?_⟩
  rcases (show k = 0 ∨ k = 1 ∨ k = 2 ∨ k = 3 from by omega) with rfl | rfl | rfl | rfl <;> simp [flAt] <;> omega

set_option maxRecDepth 100000 in
set_option maxHeartbeats 4000000 in
theorem line_any (w : World) (hL : LibAt w) (v : Ev) (hv : validB v = true) : Calls Tryd.prog 18 #[evV v] w fun e w' => e = .returned (.string ⟨(lineB v).toArray⟩) ∧ Only [] w w' := by
  obtain ⟨hk1, hk2, hfl⟩ := valid_parts hv
  rcases v with ⟨K, wk, tk, ot, lv⟩
  obtain ⟨i, hi0, hi⟩ : ∃ i : Nat, K = (i : Int) + 1 ∧ i < 19 := ⟨(K - 1).toNat, by simp only at hk1; omega, by simp only at hk2; omega⟩
  subst hi0
  have hii : ((i : Int) + 1 - 1).toNat = i := by omega
  have FL := Lib.hid hfl
  have HL := Lib.hid hL
  obtain ⟨res, hres⟩ : ∃ r, r = lineB ⟨(i : Int) + 1, wk, tk, ot, lv⟩ := ⟨_, rfl⟩
  have RES : Hid (res = lineTo ⟨(i : Int) + 1, wk, tk, ot, lv⟩ (formAt i) 4 ++ [10]) := Lib.hid (by rw [hres]; unfold lineB; rw [hii])
  rw [← hres]
  have UF0 := fun w' => used_any w' (formAt i)
  have VF0 := fun w' => fields_any w' ⟨(i : Int) + 1, wk, tk, ot, lv⟩
  unfold fmV at UF0
  unfold evV at VF0 ⊢
  have UF := Lib.hid UF0
  have VF := Lib.hid VF0
  obtain ⟨bx, hbx⟩ : ∃ bx, bx = w.heap.size := ⟨_, rfl⟩
  have HBX := Lib.hid hbx
  obtain ⟨W0, hW0⟩ : ∃ W0, W0 = w.alloc (.cells #[.int .i64 ((i : Int) + 1), .int .i64 wk, .int .i64 tk, .int .i64 ot, .int .i64 lv] 23) := ⟨_, rfl⟩
  have HX := Lib.hid (show W0.heap[bx]? = some (.cells #[.int .i64 ((i : Int) + 1), .int .i64 wk, .int .i64 tk, .int .i64 ot, .int .i64 lv] 23 (0, 0)) from by rw [hW0, hbx]; exact blk_alloc_new w _)
  have O0 : Hid (Only [] w W0) := Lib.hid (by rw [hW0]; exact (Only.refl _ _).alloc _)
  have HW0 := Lib.hid hW0
  have hK0 : ∀ w', Only [] W0 w' → w'.cell? ⟨bx, 0, none⟩ = some (.int .i64 ((i : Int) + 1)) := fun w' o => cell_blk (o.keep HX.out (by simp)) 0
  have KC := Lib.hid hK0
  have hi2 : (i : Int) < 19 := by omega
  have hz1 : (i : Int) + 1 - 1 = i := by omega
  have hz2 : IntKind.i64.wrap (i : Int) = i := IntWalk.i64_in _ (by omega)
  clear hres hii hbx hfl hv hL UF0 VF0 hk1 hk2 hK0 hW0
  go_enter Tryd.func18, Tryd.ntmps18
  go_wp2_with fail
  rw [← HBX.out, ← HW0.out]
  go_upto_region 1 with fail
  go_cut [3] (fun s3 wx => ∃ fb, s3 = .pointer (some ⟨fb, 0, none⟩) ∧ wx.heap[fb]? = some (.cells #[.string ⟨(formAt i).word.toArray⟩, .bool (formAt i).t, .bool (formAt i).o, .bool (formAt i).l] 41 (0, 0)) ∧ Only [] W0 wx)
  case first =>
    refine wp_region_held_drew (S := fun w' => w'.cell? ⟨bx, 0, none⟩ = some (.int .i64 ((i : Int) + 1))) (by kernel_rfl) (KC.out _ (Only.refl _ _).drew) (fun hHeld => ?_)
    obtain ⟨W9, hW9⟩ : ∃ W9, W9 = W0.drew := ⟨_, rfl⟩
    have Q9 : Only [] W0 W9 := by rw [hW9]; exact (Only.refl _ _).drew
    rw [← hW9]
    clear hW9
    --<REG
    refine wpAnyH_take (i := 1) (v := ?_) rfl (by kernel_rfl) (by kernel_rfl) (by kernel_rfl) (fun _ _ _ h => h) (Or.inl ⟨by rfl, ?_⟩) (KC.out _ Q9) ?_
    rotate_left
    · (intro w hSw; (try dsimp only at hSw); go_simp; try with_reducible rfl)
    try simp only [Act.put, List.setIfInBounds_toArray, List.set_cons_zero, List.set_cons_succ]
    refine wpAnyH_take (i := 2) (v := ?_) rfl (by kernel_rfl) (by kernel_rfl) (by kernel_rfl) (fun _ _ _ h => h) (Or.inl ⟨by rfl, ?_⟩) (KC.out _ Q9) ?_
    rotate_left
    · (intro w hSw; (try dsimp only at hSw); go_simp; try with_reducible rfl)
    try simp only [Act.put, List.setIfInBounds_toArray, List.set_cons_zero, List.set_cons_succ]
    refine wpAnyH_take (i := 3) (v := ?_) rfl (by kernel_rfl) (by kernel_rfl) (by kernel_rfl) (fun _ _ _ h => h) (Or.inl ⟨by rfl, ?_⟩) (KC.out _ Q9) ?_
    rotate_left
    · (intro w hSw; (try dsimp only at hSw); go_simp; try with_reducible rfl)
    try simp only [Act.put, List.setIfInBounds_toArray, List.set_cons_zero, List.set_cons_succ]
    refine wpAnyH_ready (rs := [0, 6]) (by kernel_rfl) (by simp) ?_
    refine AllReadyH.cons rfl (fun K hK => ?_) (AllReadyH.cons rfl (fun K hK => ?_) AllReadyH.nil)
    · go_simp
      refine (forms_at _).mono ?_; rintro e V1 ⟨b, rfl, hb, hle, o⟩
      have Q1 := Only.then0 Q9 o
      have hbl := lt_of_blk hb
      clear o
      refine hK.out _ _ (KC.out _ Q1) (fun hHeld => ?_)
      clear hK K
      try simp only [Act.put, List.setIfInBounds_toArray, List.set_cons_zero, List.set_cons_succ]
      refine wpAnyH_take (i := 4) (v := ?_) rfl (by kernel_rfl) (by kernel_rfl) (by kernel_rfl) (fun _ _ _ h => h) (Or.inl ⟨by rfl, ?_⟩) (KC.out _ Q1) ?_
      rotate_left
      · (intro w hSw; (try dsimp only at hSw); go_simp; try with_reducible rfl)
      try simp only [Act.put, List.setIfInBounds_toArray, List.set_cons_zero, List.set_cons_succ]
      refine wpAnyH_ready (rs := [5, 6]) (by kernel_rfl) (by simp) ?_
      refine AllReadyH.cons rfl (fun K hK => ?_) (AllReadyH.cons rfl (fun K hK => ?_) AllReadyH.nil)
      · obtain ⟨d0, d1, d2, d3⟩ := formsL_cells hb hi
        go_simp
        clear d0 d1 d2 d3
        refine hK.out _ _ (KC.out _ Q1) (fun hHeld => ?_)
        clear hK K
        try simp only [Act.put, List.setIfInBounds_toArray, List.set_cons_zero, List.set_cons_succ]
        refine wpAnyH_ready (rs := [6]) (by kernel_rfl) (by simp) ?_
        refine AllReadyH.cons rfl (fun K hK => ?_) AllReadyH.nil
        go_simp
        obtain ⟨V3, hV⟩ : ∃ V, V = V1.alloc (.cells #[.string ⟨#[]⟩, .bool false, .bool false, .bool false] 41) := ⟨_, rfl⟩
        try rw [← hV]
        obtain ⟨fb, hfb⟩ : ∃ fb, fb = V1.heap.size := ⟨_, rfl⟩
        try rw [← hfb]
        have N3 : V3.heap[fb]? = some (.cells #[.string ⟨#[]⟩, .bool false, .bool false, .bool false] 41 (0, 0)) := by rw [hV, hfb]; exact blk_alloc_new _ _
        have Q3 : Only [] W0 V3 := by rw [hV]; exact Only.alloc Q1 _
        have hfw : W0.heap.size ≤ fb := by rw [hfb]; exact (Q1).size
        have hb3 : V3.heap[b]? = some (.cells formsL.toArray 41 (0, 0)) := by rw [hV, blk_alloc_old (lt_of_blk hb)]; exact hb
        clear hV hfb
        refine hK.out _ _ (KC.out _ Q3) (fun hHeld => ?_)
        clear hK K
        try simp only [Act.put, List.setIfInBounds_toArray, List.set_cons_zero, List.set_cons_succ]
        refine wpAnyH_ready (rs := [7]) (by kernel_rfl) (by simp) ?_
        refine AllReadyH.cons rfl (fun K hK => ?_) AllReadyH.nil
        have n0 := cell_blk N3 0
        have n1 := cell_blk N3 1
        have n2 := cell_blk N3 2
        have n3 := cell_blk N3 3
        simp at n0 n1 n2 n3
        have f0 := free_blk N3 0
        have f1 := free_blk N3 1
        have f2 := free_blk N3 2
        have f3 := free_blk N3 3
        have hfl := lt_of_blk N3
        go_simp
        clear n0 n1 n2 n3 f0 f1 f2 f3 hfl
        refine hK.out _ _ (KC.out _ (((((Only.setCell Q3 (.inr hfw) _).setCell (.inr hfw) _).setCell (.inr hfw) _).setCell (.inr hfw) _))) (fun hHeld => ?_)
        clear hK K
        try simp only [Act.put, List.setIfInBounds_toArray, List.set_cons_zero, List.set_cons_succ]
        refine wpAnyH_done (by kernel_rfl) ?_ _
        clear hHeld
        go_wp2_with fail
        go_meet
        exact ⟨_, rfl, by
          have e := blk_setCell (blk_setCell (blk_setCell (blk_setCell N3 0 (.string ⟨(formAt i).word.toArray⟩)) 1 (.bool (formAt i).t)) 2 (.bool (formAt i).o)) 3 (.bool (formAt i).l)
          simpa only [List.setIfInBounds_toArray, List.set_cons_zero, List.set_cons_succ] using e, ((((Only.setCell Q3 (.inr hfw) _).setCell (.inr hfw) _).setCell (.inr hfw) _).setCell (.inr hfw) _)⟩
      · go_simp
        obtain ⟨V5, hV⟩ : ∃ V, V = V1.alloc (.cells #[.string ⟨#[]⟩, .bool false, .bool false, .bool false] 41) := ⟨_, rfl⟩
        try rw [← hV]
        obtain ⟨fb, hfb⟩ : ∃ fb, fb = V1.heap.size := ⟨_, rfl⟩
        try rw [← hfb]
        have N5 : V5.heap[fb]? = some (.cells #[.string ⟨#[]⟩, .bool false, .bool false, .bool false] 41 (0, 0)) := by rw [hV, hfb]; exact blk_alloc_new _ _
        have Q5 : Only [] W0 V5 := by rw [hV]; exact Only.alloc Q1 _
        have hfw : W0.heap.size ≤ fb := by rw [hfb]; exact (Q1).size
        have hb5 : V5.heap[b]? = some (.cells formsL.toArray 41 (0, 0)) := by rw [hV, blk_alloc_old (lt_of_blk hb)]; exact hb
        clear hV hfb
        refine hK.out _ _ (KC.out _ Q5) (fun hHeld => ?_)
        clear hK K
        try simp only [Act.put, List.setIfInBounds_toArray, List.set_cons_zero, List.set_cons_succ]
        refine wpAnyH_ready (rs := [5]) (by kernel_rfl) (by simp) ?_
        refine AllReadyH.cons rfl (fun K hK => ?_) AllReadyH.nil
        obtain ⟨d0, d1, d2, d3⟩ := formsL_cells hb5 hi
        go_simp
        clear d0 d1 d2 d3
        refine hK.out _ _ (KC.out _ Q5) (fun hHeld => ?_)
        clear hK K
        try simp only [Act.put, List.setIfInBounds_toArray, List.set_cons_zero, List.set_cons_succ]
        refine wpAnyH_ready (rs := [7]) (by kernel_rfl) (by simp) ?_
        refine AllReadyH.cons rfl (fun K hK => ?_) AllReadyH.nil
        have n0 := cell_blk N5 0
        have n1 := cell_blk N5 1
        have n2 := cell_blk N5 2
        have n3 := cell_blk N5 3
        simp at n0 n1 n2 n3
        have f0 := free_blk N5 0
        have f1 := free_blk N5 1
        have f2 := free_blk N5 2
        have f3 := free_blk N5 3
        have hfl := lt_of_blk N5
        go_simp
        clear n0 n1 n2 n3 f0 f1 f2 f3 hfl
        refine hK.out _ _ (KC.out _ (((((Only.setCell Q5 (.inr hfw) _).setCell (.inr hfw) _).setCell (.inr hfw) _).setCell (.inr hfw) _))) (fun hHeld => ?_)
        clear hK K
        try simp only [Act.put, List.setIfInBounds_toArray, List.set_cons_zero, List.set_cons_succ]
        refine wpAnyH_done (by kernel_rfl) ?_ _
        clear hHeld
        go_wp2_with fail
        go_meet
        exact ⟨_, rfl, by
          have e := blk_setCell (blk_setCell (blk_setCell (blk_setCell N5 0 (.string ⟨(formAt i).word.toArray⟩)) 1 (.bool (formAt i).t)) 2 (.bool (formAt i).o)) 3 (.bool (formAt i).l)
          simpa only [List.setIfInBounds_toArray, List.set_cons_zero, List.set_cons_succ] using e, ((((Only.setCell Q5 (.inr hfw) _).setCell (.inr hfw) _).setCell (.inr hfw) _).setCell (.inr hfw) _)⟩
    · go_simp
      obtain ⟨V8, hV⟩ : ∃ V, V = W9.alloc (.cells #[.string ⟨#[]⟩, .bool false, .bool false, .bool false] 41) := ⟨_, rfl⟩
      try rw [← hV]
      obtain ⟨fb, hfb⟩ : ∃ fb, fb = W9.heap.size := ⟨_, rfl⟩
      try rw [← hfb]
      have N8 : V8.heap[fb]? = some (.cells #[.string ⟨#[]⟩, .bool false, .bool false, .bool false] 41 (0, 0)) := by rw [hV, hfb]; exact blk_alloc_new _ _
      have Q8 : Only [] W0 V8 := by rw [hV]; exact Only.alloc Q9 _
      have hfw : W0.heap.size ≤ fb := by rw [hfb]; exact (Q9).size
      clear hV hfb
      refine hK.out _ _ (KC.out _ Q8) (fun hHeld => ?_)
      clear hK K
      try simp only [Act.put, List.setIfInBounds_toArray, List.set_cons_zero, List.set_cons_succ]
      refine wpAnyH_ready (rs := [0]) (by kernel_rfl) (by simp) ?_
      refine AllReadyH.cons rfl (fun K hK => ?_) AllReadyH.nil
      go_simp
      refine (forms_at _).mono ?_; rintro e V9 ⟨b, rfl, hb, hle, o⟩
      have Q9 := Only.then0 Q8 o
      have N9 := o.keep N8 (by simp)
      have hbl := lt_of_blk hb
      clear o
      refine hK.out _ _ (KC.out _ Q9) (fun hHeld => ?_)
      clear hK K
      try simp only [Act.put, List.setIfInBounds_toArray, List.set_cons_zero, List.set_cons_succ]
      refine wpAnyH_take (i := 4) (v := ?_) rfl (by kernel_rfl) (by kernel_rfl) (by kernel_rfl) (fun _ _ _ h => h) (Or.inl ⟨by rfl, ?_⟩) (KC.out _ Q9) ?_
      rotate_left
      · (intro w hSw; (try dsimp only at hSw); go_simp; try with_reducible rfl)
      try simp only [Act.put, List.setIfInBounds_toArray, List.set_cons_zero, List.set_cons_succ]
      refine wpAnyH_ready (rs := [5]) (by kernel_rfl) (by simp) ?_
      refine AllReadyH.cons rfl (fun K hK => ?_) AllReadyH.nil
      obtain ⟨d0, d1, d2, d3⟩ := formsL_cells hb hi
      go_simp
      clear d0 d1 d2 d3
      refine hK.out _ _ (KC.out _ Q9) (fun hHeld => ?_)
      clear hK K
      try simp only [Act.put, List.setIfInBounds_toArray, List.set_cons_zero, List.set_cons_succ]
      refine wpAnyH_ready (rs := [7]) (by kernel_rfl) (by simp) ?_
      refine AllReadyH.cons rfl (fun K hK => ?_) AllReadyH.nil
      have n0 := cell_blk N9 0
      have n1 := cell_blk N9 1
      have n2 := cell_blk N9 2
      have n3 := cell_blk N9 3
      simp at n0 n1 n2 n3
      have f0 := free_blk N9 0
      have f1 := free_blk N9 1
      have f2 := free_blk N9 2
      have f3 := free_blk N9 3
      have hfl := lt_of_blk N9
      go_simp
      clear n0 n1 n2 n3 f0 f1 f2 f3 hfl
      refine hK.out _ _ (KC.out _ (((((Only.setCell Q9 (.inr hfw) _).setCell (.inr hfw) _).setCell (.inr hfw) _).setCell (.inr hfw) _))) (fun hHeld => ?_)
      clear hK K
      try simp only [Act.put, List.setIfInBounds_toArray, List.set_cons_zero, List.set_cons_succ]
      refine wpAnyH_done (by kernel_rfl) ?_ _
      clear hHeld
      go_wp2_with fail
      go_meet
      exact ⟨_, rfl, by
        have e := blk_setCell (blk_setCell (blk_setCell (blk_setCell N9 0 (.string ⟨(formAt i).word.toArray⟩)) 1 (.bool (formAt i).t)) 2 (.bool (formAt i).o)) 3 (.bool (formAt i).l)
        simpa only [List.setIfInBounds_toArray, List.set_cons_zero, List.set_cons_succ] using e, ((((Only.setCell Q9 (.inr hfw) _).setCell (.inr hfw) _).setCell (.inr hfw) _).setCell (.inr hfw) _)⟩
    --REG>
  case rest =>
    obtain ⟨fb, rfl, hfb, ho⟩ := hcut
    obtain ⟨w1, hw1⟩ : ∃ w1, w1 = wc := ⟨_, rfl⟩
    subst hw1
    have FB := Lib.hid hfb
    have O1 := Lib.hid ho
    have c0 := cell_blk hfb 0
    have c1 := cell_blk hfb 1
    have c2 := cell_blk hfb 2
    have c3 := cell_blk hfb 3
    simp at c0 c1 c2 c3
    have hx := ho.keep HX.out (by simp)
    have d0 := cell_blk hx 0
    have d1 := cell_blk hx 1
    have d2 := cell_blk hx 2
    have d3 := cell_blk hx 3
    have d4 := cell_blk hx 4
    simp at d0 d1 d2 d3 d4
    clear hfb ho hx
    go_wp2_with fail
    refine (UF.out _).mono ?_; rintro e w2 ⟨rfl, o2⟩
    have O2 := Lib.hid (O1.out.then0 o2)
    clear c0 c1 c2 c3 d0 d1 d2 d3 d4
    have hx := O2.out.keep HX.out (by simp)
    have d0 := cell_blk hx 0
    have d1 := cell_blk hx 1
    have d2 := cell_blk hx 2
    have d3 := cell_blk hx 3
    have d4 := cell_blk hx 4
    simp at d0 d1 d2 d3 d4
    have hlx := lt_of_blk hx
    clear hx o2
    go_wp2_with fail
    refine (VF.out _).mono ?_; rintro e w3 ⟨rfl, o3⟩
    obtain ⟨ub, hub⟩ : ∃ ub, ub = w2.heap.size := ⟨_, rfl⟩
    rw [← hub]
    have HU := Lib.hid (show w3.heap[ub]? = some (.cells #[.bool true, .bool (formAt i).t, .bool (formAt i).o, .bool (formAt i).l] 39 (0, 0)) from by
      rw [hub]; exact o3.keep (blk_alloc_new w2 _) (by simp))
    have O3 := Lib.hid ((O2.out.alloc (.cells #[.bool true, .bool (formAt i).t, .bool (formAt i).o, .bool (formAt i).l] 39)).then0 o3)
    clear hub o3 d0 d1 d2 d3 d4 hlx
    go_wp2_with fail
    go_loopw [4, 6, 7, 20] (fun s _ _ r wr => ∃ (k : Nat) (LB : ByteArray), r = .int .i64 k ∧ k ≤ 4 ∧ s = .string LB ∧ LB = ⟨(lineTo ⟨(i : Int) + 1, wk, tk, ot, lv⟩ (formAt i) k).toArray⟩ ∧ LB.size ≤ 6 + 4 * k ∧ Only [] w3 wr) (fun _ _ _ r _ => 4 - (intOf r).toNat)
    case atStart => exact ⟨0, _, rfl, by omega, rfl, rfl, by rw [size_list]; exact word_len i, Only.refl _ _⟩
    case round =>
      obtain ⟨k, LB, rfl, hk4, rfl, hLB, hLs, ho⟩ := hrel
      obtain ⟨w4, hw4⟩ : ∃ w4, w4 = wr := ⟨_, rfl⟩
      subst hw4
      have OW := Lib.hid ho
      have HLB := Lib.hid hLB
      clear ho hLB
      by_cases hk : k < 4
      · have hix := idx_f ⟨(i : Int) + 1, wk, tk, ot, lv⟩ k hk
        have hcu : w4.cell? ⟨ub, k, none⟩ = some (.bool (usAt (formAt i) k)) := by
          rw [cell_blk (OW.out.keep HU.out (by simp))]
          rcases (show k = 0 ∨ k = 1 ∨ k = 2 ∨ k = 3 from by omega) with rfl | rfl | rfl | rfl <;> rfl
        have hxb := FL.out k hk
        obtain ⟨x, hx⟩ : ∃ x, x = flAt ⟨(i : Int) + 1, wk, tk, ot, lv⟩ k := ⟨_, rfl⟩
        obtain ⟨u, hu⟩ : ∃ u, u = usAt (formAt i) k := ⟨_, rfl⟩
        simp only at hix
        rw [← hx] at hix hxb
        rw [← hu] at hcu
        obtain ⟨IB, hIB⟩ : ∃ IB : ByteArray, IB = ⟨(Lib.itoa x).toArray⟩ := ⟨_, rfl⟩
        have hIs : IB.size ≤ 3 := by rw [hIB, size_list]; exact itoa_len hxb.1 hxb.2
        have SG : Hid (∀ R : ByteArray, (u = true → R = LB ++ (⟨#[32]⟩ ++ IB)) → (u = false → R = LB) → R = ⟨(lineTo ⟨(i : Int) + 1, wk, tk, ot, lv⟩ (formAt i) (k + 1)).toArray⟩) := Lib.hid (by
          intro R h1 h2
          have e : lineTo ⟨(i : Int) + 1, wk, tk, ot, lv⟩ (formAt i) (k + 1) = lineTo ⟨(i : Int) + 1, wk, tk, ot, lv⟩ (formAt i) k ++ (if u then 32 :: Lib.itoa x else []) := by rw [hu, hx]; rfl
          rw [e]
          cases u with
          | true => rw [h1 rfl, HLB.out, hIB, show (⟨#[32]⟩ : ByteArray) = ⟨[(32 : UInt8)].toArray⟩ from rfl, bytes_app, bytes_app]; rfl
          | false => rw [h2 rfl, HLB.out]; simp)
        have IT := itoa_any w4 (HL.out.keep0 ((O0.out.then0 O3.out).then0 OW.out)) x (by omega) (by omega)
        rw [← hIB] at IT
        have ITH := Lib.hid IT
        have h1s : (⟨#[32]⟩ : ByteArray).size = 1 := rfl
        clear hx hu hIB IT
        cases u with
        | true =>
          go_wp2_with fail
          refine ITH.out.mono ?_; rintro e w5 ⟨rfl, o5⟩
          have O5 := Lib.hid (OW.out.then0 o5)
          clear o5
          go_wp2_with fail
          go_roundw
          case rel => exact ⟨k + 1, _, by go_num, by omega, rfl, SG.out _ (fun _ => rfl) (fun h => by cases h), by rw [ByteArray.size_append, ByteArray.size_append, h1s]; omega, O5.out⟩
          case measure => simp [intOf]; omega
        | false =>
          go_wp2_with fail
          go_roundw
          case rel => exact ⟨k + 1, LB, by go_num, by omega, rfl, SG.out _ (fun h => by cases h) (fun _ => rfl), by omega, OW.out⟩
          case measure => simp [intOf]; omega
      · obtain rfl : k = 4 := by omega
        have h1s : (⟨#[10]⟩ : ByteArray).size = 1 := rfl
        go_wp2_with fail
        go_ret
        exact ⟨by rw [RES.out, HLB.out, ← bytes_app]; rfl, (O0.out.then0 O3.out).then0 OW.out⟩
end Go.Proofs.YtncnepmgmphanaaDoor
