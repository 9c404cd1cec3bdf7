/- The reference's line of a valid event (printed by gen_evref.py). No condition beside those named. -/
import Derived.Test.YtncnepmgmphanaaGreatDoorMg26
import Derived.Test.YtncnepmgmphanaaGreatDoorMg25
import Derived.Deep.RegionHeld3
import Derived.Deep.LoopGhost
set_option linter.unusedVariables false
set_option linter.unusedSimpArgs false
set_option linter.unusedSectionVars false
namespace Go.Proofs.YtncnepmgmphanaaGreatDoor
open Go.RowKit
set_option maxRecDepth 100000 in
set_option maxHeartbeats 4000000 in
theorem refLine_any (w : World) (v : Evt) (hv : validB v = true) : Calls Tryz.prog 32 #[evV v] w fun e w' => e = .returned (.string (bs (lineB v))) ∧ Only [] w w' := by
  obtain ⟨hk1, hk2, hfl⟩ := valid_parts hv
  rcases v with ⟨K, wk, tk, ot, lv⟩
  obtain ⟨i, hi0, hi⟩ : ∃ i : Nat, K = (i : Int) + 1 ∧ i < 19 := ⟨(K - 1).toNat, by simp only at hk1; omega, by simp only at hk2; omega⟩
  subst hi0
  obtain ⟨n0, hn0⟩ : ∃ n : Nat, wk = n := ⟨wk.toNat, by have := hfl 0 (by omega); simp [flAt] at this; omega⟩
  obtain ⟨n1, hn1⟩ : ∃ n : Nat, tk = n := ⟨tk.toNat, by have := hfl 1 (by omega); simp [flAt] at this; omega⟩
  obtain ⟨n2, hn2⟩ : ∃ n : Nat, ot = n := ⟨ot.toNat, by have := hfl 2 (by omega); simp [flAt] at this; omega⟩
  obtain ⟨n3, hn3⟩ : ∃ n : Nat, lv = n := ⟨lv.toNat, by have := hfl 3 (by omega); simp [flAt] at this; omega⟩
  have b0 : n0 ≤ 256 := by have := hfl 0 (by omega); simp [flAt] at this; omega
  have b1 : n1 ≤ 256 := by have := hfl 1 (by omega); simp [flAt] at this; omega
  have b2 : n2 ≤ 256 := by have := hfl 2 (by omega); simp [flAt] at this; omega
  have b3 : n3 ≤ 256 := by have := hfl 3 (by omega); simp [flAt] at this; omega
  subst hn0 hn1 hn2 hn3
  have LB := Lib.hid (show ∀ s : ByteArray, s.data.toList = (formAt i).word ++ (32 :: Lib.itoa n0) ++ (if (formAt i).t then 32 :: Lib.itoa n1 else []) ++ (if (formAt i).o then 32 :: Lib.itoa n2 else []) ++ (if (formAt i).l then 32 :: Lib.itoa n3 else []) ++ [10] → s = bs (lineB ⟨(i : Int) + 1, n0, n1, n2, n3⟩) from fun s e => by
    have e2 : ((i : Int) + 1 - 1).toNat = i := by omega
    apply ByteArray.ext
    apply Array.ext'
    rw [e]
    simp only [lineB, e2, lineTo, segB, usAt, flAt, bs]
    simp)
  obtain ⟨I0, hI0⟩ : ∃ I : ByteArray, I = ⟨(Lib.itoa (n0 : Int)).toArray⟩ := ⟨_, rfl⟩
  obtain ⟨I1, hI1⟩ : ∃ I : ByteArray, I = ⟨(Lib.itoa (n1 : Int)).toArray⟩ := ⟨_, rfl⟩
  obtain ⟨I2, hI2⟩ : ∃ I : ByteArray, I = ⟨(Lib.itoa (n2 : Int)).toArray⟩ := ⟨_, rfl⟩
  obtain ⟨I3, hI3⟩ : ∃ I : ByteArray, I = ⟨(Lib.itoa (n3 : Int)).toArray⟩ := ⟨_, rfl⟩
  have z0 : I0.size ≤ 3 := by rw [hI0, size_list]; exact itoa_len (by omega) (by omega)
  have z1 : I1.size ≤ 3 := by rw [hI1, size_list]; exact itoa_len (by omega) (by omega)
  have z2 : I2.size ≤ 3 := by rw [hI2, size_list]; exact itoa_len (by omega) (by omega)
  have z3 : I3.size ≤ 3 := by rw [hI3, size_list]; exact itoa_len (by omega) (by omega)
  have N0 := Lib.hid (fun w => refNumber_any w n0 b0)
  have N1 := Lib.hid (fun w => refNumber_any w n1 b1)
  have N2 := Lib.hid (fun w => refNumber_any w n2 b2)
  have N3 := Lib.hid (fun w => refNumber_any w n3 b3)
  rw [← hI0] at N0
  rw [← hI1] at N1
  rw [← hI2] at N2
  rw [← hI3] at N3
  have LI := Lib.hid (show I0.data.toList = Lib.itoa n0 ∧ I1.data.toList = Lib.itoa n1 ∧ I2.data.toList = Lib.itoa n2 ∧ I3.data.toList = Lib.itoa n3 from ⟨by rw [hI0], by rw [hI1], by rw [hI2], by rw [hI3]⟩)
  clear hI0 hI1 hI2 hI3
  obtain ⟨R, hR⟩ : ∃ R, R = bs (lineB ⟨(i : Int) + 1, n0, n1, n2, n3⟩) := ⟨_, rfl⟩
  rw [← hR] at LB ⊢
  clear hR hv hfl hk1 hk2
  unfold evV
  obtain ⟨bx, hbx⟩ : ∃ bx, bx = w.heap.size := ⟨_, rfl⟩
  have HBX := Lib.hid hbx
  have hw0 := blk_alloc_new w (.cells #[.int .i64 ((i : Int) + 1), .int .i64 n0, .int .i64 n1, .int .i64 n2, .int .i64 n3] 27)
  rw [← hbx] at hw0
  have HW0 := Lib.hid hw0
  clear hbx hw0
  go_enter Tryz.func32, Tryz.ntmps32
  go_wp2_with fail
  rw [← HBX.out]
  refine (refForms_at _).mono ?_; rintro e w1 ⟨b, rfl, hb, hle, o1⟩
  have O1 := Lib.hid (((Only.refl [] w).alloc _).then0 o1)
  have HX1 := Lib.hid (o1.keep HW0.out (by simp))
  have HB := Lib.hid hb
  clear hb hle o1
  go_wp2_with fail
  go_loopw [4] (fun r wr => ∃ k : Nat, r = .int .i64 k ∧ k ≤ i ∧ Only [] w1 wr) (fun r _ => 19 - (intOf r).toNat)
  case atStart => exact ⟨0, rfl, by omega, Only.refl _ _⟩
  case round =>
    obtain ⟨k, rfl, hk, ho⟩ := hrel
    have OW := Lib.hid ho
    obtain ⟨wo, hwo⟩ : ∃ wo, wo = wr := ⟨_, rfl⟩
    subst hwo
    clear ho
    have hk19 : k < 19 := by omega
    obtain ⟨d0, d1, d2, d3, d4⟩ := refFormsL_cells (OW.out.keep HB.out (by simp)) hk19
    have hx := OW.out.keep HX1.out (by simp)
    have c0 := cell_blk hx 0
    simp at c0
    have hbl := lt_of_blk hx
    have hi1 : (0 : Int) ≤ (k : Int) := by omega
    have hi2 : (k : Int) < 19 := by omega
    by_cases hki : k = i
    · subst hki
      obtain ⟨w7, hw7⟩ : ∃ w7, w7 = wo.alloc (.cells #[.int .i64 ((k : Int) + 1), .string ⟨(formAt k).word.toArray⟩, .bool (formAt k).t, .bool (formAt k).o, .bool (formAt k).l] 106) := ⟨_, rfl⟩
      obtain ⟨fb, hfb⟩ : ∃ fb, fb = wo.heap.size := ⟨_, rfl⟩
      have HF := Lib.hid (show Only [] w1 w7 ∧ w7.heap[fb]? = some (.cells #[.int .i64 ((k : Int) + 1), .string ⟨(formAt k).word.toArray⟩, .bool (formAt k).t, .bool (formAt k).o, .bool (formAt k).l] 106 (0, 0)) ∧ w7.heap[bx]? = some (.cells #[.int .i64 ((k : Int) + 1), .int .i64 n0, .int .i64 n1, .int .i64 n2, .int .i64 n3] 27 (0, 0)) from ⟨by rw [hw7]; exact OW.out.alloc _, by rw [hw7, hfb]; exact blk_alloc_new _ _, by rw [hw7]; exact ((Only.refl [] wo).alloc _).keep hx (by simp)⟩)
      have HW7 := Lib.hid (And.intro hw7 hfb)
      have hwl := word_len k
      obtain ⟨A, hA⟩ : ∃ A : ByteArray, A = ⟨(formAt k).word.toArray⟩ := ⟨_, rfl⟩
      have zA : A.size ≤ 6 := by rw [hA, size_list]; exact hwl
      have HA := Lib.hid (show A.data.toList = (formAt k).word by rw [hA])
      have HAe := Lib.hid hA
      have nA : ¬ (9223372036854775807 < A.size + 1) := by omega
      have nB : ¬ (9223372036854775807 < A.size + 1 + I0.size) := by omega
      clear hA
      clear hw7 hfb
      go_upto_region 7 with fail
      clear hbl d0 d1 d2 d3 d4
      rw [← HW7.out.1, ← HW7.out.2]
      have q1 := cell_blk HF.out.2.1 1
      have q2 := cell_blk HF.out.2.2 1
      simp at q1 q2
      rw [← HAe.out] at q1
      refine wp_region_held_drew (S := fun w' => w'.cell? ⟨fb, 1, none⟩ = some (.string A) ∧ w'.cell? ⟨bx, 1, none⟩ = some (.int .i64 n0)) (by kernel_rfl) ⟨q1, q2⟩ (fun hHeld => ?_)
      obtain ⟨wd, hwd⟩ : ∃ wd, wd = w7.drew := ⟨_, rfl⟩
      have HD := Lib.hid (show Only [] w7 wd from by rw [hwd]; exact (Only.refl _ _).drew)
      rw [← hwd] at hHeld ⊢
      clear hwd q1 q2 hwl
      refine wpAnyH_take (i := 0) (v := ?_) rfl (by kernel_rfl) (by kernel_rfl) (by kernel_rfl) (fun _ _ _ h => h) (Or.inl ⟨by rfl, ?_⟩) (by assumption) ?_
      rotate_left
      · (intro w hSw; (try dsimp only at hSw); obtain ⟨s1, s2⟩ := hSw; go_simp; try with_reducible rfl)
      try simp only [Act.put, List.setIfInBounds_toArray, List.set_cons_zero, List.set_cons_succ]
      refine wpAnyH_take (i := 1) (v := ?_) rfl (by kernel_rfl) (by kernel_rfl) (by kernel_rfl) (fun _ _ _ h => h) (Or.inl ⟨by rfl, ?_⟩) (by assumption) ?_
      rotate_left
      · (intro w hSw; (try dsimp only at hSw); obtain ⟨s1, s2⟩ := hSw; go_simp; try with_reducible rfl)
      try simp only [Act.put, List.setIfInBounds_toArray, List.set_cons_zero, List.set_cons_succ]
      refine wpAnyH_take (i := 2) (v := ?_) rfl (by kernel_rfl) (by kernel_rfl) (by kernel_rfl) (fun _ _ _ h => h) (Or.inl ⟨by rfl, ?_⟩) (by assumption) ?_
      rotate_left
      · (intro w hSw; (try dsimp only at hSw); obtain ⟨s1, s2⟩ := hSw; go_simp; try with_reducible rfl)
      try simp only [Act.put, List.setIfInBounds_toArray, List.set_cons_zero, List.set_cons_succ]
      refine wpAnyH_take (i := 3) (v := ?_) rfl (by kernel_rfl) (by kernel_rfl) (by kernel_rfl) (fun _ _ _ h => h) (Or.inl ⟨by rfl, ?_⟩) (by assumption) ?_
      rotate_left
      · (intro w hSw; (try dsimp only at hSw); obtain ⟨s1, s2⟩ := hSw; go_simp; try with_reducible rfl)
      try simp only [Act.put, List.setIfInBounds_toArray, List.set_cons_zero, List.set_cons_succ]
      refine wpAnyH_take (i := 4) (v := ?_) rfl (by kernel_rfl) (by kernel_rfl) (by kernel_rfl) (fun _ _ _ h => h) (Or.inl ⟨by rfl, ?_⟩) (by assumption) ?_
      rotate_left
      · (intro w hSw; (try dsimp only at hSw); obtain ⟨s1, s2⟩ := hSw; go_simp; try with_reducible rfl)
      try simp only [Act.put, List.setIfInBounds_toArray, List.set_cons_zero, List.set_cons_succ]
      refine wpAnyH_ready (rs := [5]) (by kernel_rfl) (by simp) ?_
      refine AllReadyH.cons rfl (fun K hK => ?_) AllReadyH.nil
      go_simp
      refine (N0.out _).mono ?_
      rintro e wn ⟨rfl, on⟩
      have HN0 := Lib.hid (show Only [] w7 wn from HD.out.then0 on)
      have q3 := HN0.out.keep HF.out.2.1 (by simp)
      have q4 := HN0.out.keep HF.out.2.2 (by simp)
      have q1 := cell_blk q3 1
      have q2 := cell_blk q4 1
      simp at q1 q2
      rw [← HAe.out] at q1
      clear on
      refine hK.out _ _ ⟨q1, q2⟩ (fun hHeld => ?_)
      clear hK K
      try simp only [Act.put, List.setIfInBounds_toArray, List.set_cons_zero, List.set_cons_succ]
      refine wpAnyH_take (i := 6) (v := ?_) rfl (by kernel_rfl) (by kernel_rfl) (by kernel_rfl) (fun _ _ _ h => h) (Or.inl ⟨by rfl, ?_⟩) (by assumption) ?_
      rotate_left
      · (intro w hSw; (try dsimp only at hSw); obtain ⟨s1, s2⟩ := hSw; go_simp; try with_reducible rfl)
      try simp only [Act.put, List.setIfInBounds_toArray, List.set_cons_zero, List.set_cons_succ]
      refine wpAnyH_take (i := 7) (v := ?_) rfl (by kernel_rfl) (by kernel_rfl) (by kernel_rfl) (fun _ _ _ h => h) (Or.inl ⟨by rfl, ?_⟩) (by assumption) ?_
      rotate_left
      · (intro w hSw; (try dsimp only at hSw); obtain ⟨s1, s2⟩ := hSw; go_simp; try with_reducible rfl)
      try simp only [Act.put, List.setIfInBounds_toArray, List.set_cons_zero, List.set_cons_succ]
      refine wpAnyH_done (by kernel_rfl) ?_ _
      clear nA nB
      have q3 := HN0.out.keep HF.out.2.1 (by simp)
      have q1 := cell_blk q3 2
      simp at q1
      clear q3
      cases ht : (formAt k).t with
      | true =>
        rw [ht] at q1
        have q4 := HN0.out.keep HF.out.2.2 (by simp)
        have q2 := cell_blk q4 2
        simp at q2
        clear q4
        go_wp2_with fail
        refine (N1.out _).mono ?_
        rintro e v1 ⟨rfl, on⟩
        have K1 := Lib.hid (show Only [] w7 v1 from HN0.out.then0 on)
        clear on q1 q2
        go_upto_region 10 with fail
        have q3 := K1.out.keep HF.out.2.1 (by simp)
        have q1 := cell_blk q3 3
        simp at q1
        clear q3
        cases ho : (formAt k).o with
        | true =>
          rw [ho] at q1
          have q4 := K1.out.keep HF.out.2.2 (by simp)
          have q2 := cell_blk q4 3
          simp at q2
          clear q4
          go_wp2_with fail
          refine (N2.out _).mono ?_
          rintro e v2 ⟨rfl, on⟩
          have K2 := Lib.hid (show Only [] w7 v2 from K1.out.then0 on)
          clear on q1 q2
          go_upto_region 12 with fail
          have q3 := K2.out.keep HF.out.2.1 (by simp)
          have q1 := cell_blk q3 4
          simp at q1
          clear q3
          cases hl : (formAt k).l with
          | true =>
            rw [hl] at q1
            have q4 := K2.out.keep HF.out.2.2 (by simp)
            have q2 := cell_blk q4 4
            simp at q2
            clear q4
            go_wp2_with fail
            refine (N3.out _).mono ?_
            rintro e v3 ⟨rfl, on⟩
            have K3 := Lib.hid (show Only [] w7 v3 from K2.out.then0 on)
            clear on q1 q2
            go_wp2_with fail
            go_ret
            refine ⟨?_, (O1.out.then0 HF.out.1).then0 K3.out⟩
            change Ending.returned (Value.string _) = Ending.returned (Value.string _)
            refine congrArg (fun s => Ending.returned (Value.string s)) ?_
            refine LB.out _ ?_
            simp only [ByteArray.data_append, Array.toList_append, HA.out, LI.out.1, LI.out.2.1, LI.out.2.2.1, LI.out.2.2.2, ht, ho, hl]
            simp
          | false =>
            rw [hl] at q1
            go_wp2_with fail
            go_ret
            refine ⟨?_, (O1.out.then0 HF.out.1).then0 K2.out⟩
            change Ending.returned (Value.string _) = Ending.returned (Value.string _)
            refine congrArg (fun s => Ending.returned (Value.string s)) ?_
            refine LB.out _ ?_
            simp only [ByteArray.data_append, Array.toList_append, HA.out, LI.out.1, LI.out.2.1, LI.out.2.2.1, LI.out.2.2.2, ht, ho, hl]
            simp
        | false =>
          rw [ho] at q1
          go_upto_region 12 with fail
          clear q1
          have q3 := K1.out.keep HF.out.2.1 (by simp)
          have q1 := cell_blk q3 4
          simp at q1
          clear q3
          cases hl : (formAt k).l with
          | true =>
            rw [hl] at q1
            have q4 := K1.out.keep HF.out.2.2 (by simp)
            have q2 := cell_blk q4 4
            simp at q2
            clear q4
            go_wp2_with fail
            refine (N3.out _).mono ?_
            rintro e v4 ⟨rfl, on⟩
            have K4 := Lib.hid (show Only [] w7 v4 from K1.out.then0 on)
            clear on q1 q2
            go_wp2_with fail
            go_ret
            refine ⟨?_, (O1.out.then0 HF.out.1).then0 K4.out⟩
            change Ending.returned (Value.string _) = Ending.returned (Value.string _)
            refine congrArg (fun s => Ending.returned (Value.string s)) ?_
            refine LB.out _ ?_
            simp only [ByteArray.data_append, Array.toList_append, HA.out, LI.out.1, LI.out.2.1, LI.out.2.2.1, LI.out.2.2.2, ht, ho, hl]
            simp
          | false =>
            rw [hl] at q1
            go_wp2_with fail
            go_ret
            refine ⟨?_, (O1.out.then0 HF.out.1).then0 K1.out⟩
            change Ending.returned (Value.string _) = Ending.returned (Value.string _)
            refine congrArg (fun s => Ending.returned (Value.string s)) ?_
            refine LB.out _ ?_
            simp only [ByteArray.data_append, Array.toList_append, HA.out, LI.out.1, LI.out.2.1, LI.out.2.2.1, LI.out.2.2.2, ht, ho, hl]
            simp
      | false =>
        rw [ht] at q1
        go_upto_region 10 with fail
        clear q1
        have q3 := HN0.out.keep HF.out.2.1 (by simp)
        have q1 := cell_blk q3 3
        simp at q1
        clear q3
        cases ho : (formAt k).o with
        | true =>
          rw [ho] at q1
          have q4 := HN0.out.keep HF.out.2.2 (by simp)
          have q2 := cell_blk q4 3
          simp at q2
          clear q4
          go_wp2_with fail
          refine (N2.out _).mono ?_
          rintro e v5 ⟨rfl, on⟩
          have K5 := Lib.hid (show Only [] w7 v5 from HN0.out.then0 on)
          clear on q1 q2
          go_upto_region 12 with fail
          have q3 := K5.out.keep HF.out.2.1 (by simp)
          have q1 := cell_blk q3 4
          simp at q1
          clear q3
          cases hl : (formAt k).l with
          | true =>
            rw [hl] at q1
            have q4 := K5.out.keep HF.out.2.2 (by simp)
            have q2 := cell_blk q4 4
            simp at q2
            clear q4
            go_wp2_with fail
            refine (N3.out _).mono ?_
            rintro e v6 ⟨rfl, on⟩
            have K6 := Lib.hid (show Only [] w7 v6 from K5.out.then0 on)
            clear on q1 q2
            go_wp2_with fail
            go_ret
            refine ⟨?_, (O1.out.then0 HF.out.1).then0 K6.out⟩
            change Ending.returned (Value.string _) = Ending.returned (Value.string _)
            refine congrArg (fun s => Ending.returned (Value.string s)) ?_
            refine LB.out _ ?_
            simp only [ByteArray.data_append, Array.toList_append, HA.out, LI.out.1, LI.out.2.1, LI.out.2.2.1, LI.out.2.2.2, ht, ho, hl]
            simp
          | false =>
            rw [hl] at q1
            go_wp2_with fail
            go_ret
            refine ⟨?_, (O1.out.then0 HF.out.1).then0 K5.out⟩
            change Ending.returned (Value.string _) = Ending.returned (Value.string _)
            refine congrArg (fun s => Ending.returned (Value.string s)) ?_
            refine LB.out _ ?_
            simp only [ByteArray.data_append, Array.toList_append, HA.out, LI.out.1, LI.out.2.1, LI.out.2.2.1, LI.out.2.2.2, ht, ho, hl]
            simp
        | false =>
          rw [ho] at q1
          go_upto_region 12 with fail
          clear q1
          have q3 := HN0.out.keep HF.out.2.1 (by simp)
          have q1 := cell_blk q3 4
          simp at q1
          clear q3
          cases hl : (formAt k).l with
          | true =>
            rw [hl] at q1
            have q4 := HN0.out.keep HF.out.2.2 (by simp)
            have q2 := cell_blk q4 4
            simp at q2
            clear q4
            go_wp2_with fail
            refine (N3.out _).mono ?_
            rintro e v7 ⟨rfl, on⟩
            have K7 := Lib.hid (show Only [] w7 v7 from HN0.out.then0 on)
            clear on q1 q2
            go_wp2_with fail
            go_ret
            refine ⟨?_, (O1.out.then0 HF.out.1).then0 K7.out⟩
            change Ending.returned (Value.string _) = Ending.returned (Value.string _)
            refine congrArg (fun s => Ending.returned (Value.string s)) ?_
            refine LB.out _ ?_
            simp only [ByteArray.data_append, Array.toList_append, HA.out, LI.out.1, LI.out.2.1, LI.out.2.2.1, LI.out.2.2.2, ht, ho, hl]
            simp
          | false =>
            rw [hl] at q1
            go_wp2_with fail
            go_ret
            refine ⟨?_, (O1.out.then0 HF.out.1).then0 HN0.out⟩
            change Ending.returned (Value.string _) = Ending.returned (Value.string _)
            refine congrArg (fun s => Ending.returned (Value.string s)) ?_
            refine LB.out _ ?_
            simp only [ByteArray.data_append, Array.toList_append, HA.out, LI.out.1, LI.out.2.1, LI.out.2.2.1, LI.out.2.2.2, ht, ho, hl]
            simp
    · have hne : ¬ ((k : Int) + 1 = (i : Int) + 1) := by omega
      have hne2 : ¬ ((k : Int) = (i : Int)) := by omega
      have OA := Lib.hid (OW.out.alloc (.cells #[.int .i64 ((k : Int) + 1), .string ⟨(formAt k).word.toArray⟩, .bool (formAt k).t, .bool (formAt k).o, .bool (formAt k).l] 106))
      go_wp2_with fail
      go_roundw
      case rel => exact ⟨k + 1, by first | rfl | (congr 1; omega), by omega, OA.out⟩
      case measure => simp [intOf]; omega
    end Go.Proofs.YtncnepmgmphanaaGreatDoor

namespace Go.Proofs.YtncnepmgmphanaaGreatDoor
open Go.RowKit
set_option maxRecDepth 100000 in
set_option maxHeartbeats 4000000 in
theorem refFormat_any (w : World) (v : Value) (l : List Evt) (h : EL w v l) (hn : l.length ≤ 9223372036854775807) :
    Calls Tryz.prog 11 #[v] w fun e w' => e = .returned (.tuple #[.string (bs (fmtRes l).1), .int .i64 (fmtRes l).2]) ∧ Only [] w w' := by
  obtain ⟨ao, cap, rfl, hc, hh⟩ := h
  by_cases hbig : 65536 < l.length
  · have e : fmtRes l = ([], 2) := if_pos hbig
    rw [e]
    obtain ⟨n, hnn⟩ : ∃ n, n = l.length := ⟨_, rfl⟩
    rw [← hnn] at hbig hn ⊢
    clear hh hc hnn e
    go_enter Tryz.func11, Tryz.ntmps11
    go_wp2_with fail
    go_ret2
    exact ⟨rfl, Only.refl _ _⟩
  · have e : fmtRes l = if l.all validB then (fmtB l, 0) else ([], 6) := if_neg hbig
    rw [e]
    have GO := Lib.hid (fun (hv : ∀ x ∈ l, validB x = true) => (if_pos (List.all_eq_true.2 hv) : (if l.all validB then (fmtB l, (0 : Int)) else ([], 6)) = _))
    have NO := Lib.hid (fun (x : Evt) (hx : x ∈ l) (hv : validB x = false) => (if_neg (fun hall => by have := List.all_eq_true.1 hall x hx; rw [hv] at this; cases this) : (if l.all validB then (fmtB l, (0 : Int)) else ([], 6)) = _))
    obtain ⟨R, hR⟩ : ∃ R, R = (if l.all validB then (fmtB l, (0 : Int)) else ([], 6)) := ⟨_, rfl⟩
    rw [← hR] at GO NO ⊢
    obtain ⟨n, hnn⟩ : ∃ n, n = l.length := ⟨_, rfl⟩
    have HN := Lib.hid hnn
    have HC := Lib.hid hh
    have hn2 : n ≤ 65536 := by omega
    rw [← hnn] at hc ⊢
    clear hbig hn hR hnn hh e
    go_enter Tryz.func11, Tryz.ntmps11
    go_wp2_with fail
    go_loopw [4, 5] (fun s r wr => ∃ k : Nat, r = .int .i64 k ∧ k ≤ n ∧ (∀ x ∈ l.take k, validB x = true) ∧ s = .string (bs (fmtB (l.take k))) ∧ Only [] w wr) (fun _ r _ => n - (intOf r).toNat)
    case atStart => exact ⟨0, rfl, by omega, by simp, rfl, Only.refl _ _⟩
    case round =>
      obtain ⟨k, rfl, hk, hv, rfl, ho⟩ := hrel
      obtain ⟨w3, hw3⟩ : ∃ w3, w3 = wr := ⟨_, rfl⟩
      subst hw3
      have HV := Lib.hid hv
      have OW := Lib.hid ho
      clear hv ho
      by_cases hkn : k < n
      · obtain ⟨b, off, hao, hg⟩ := HC.out (by rw [← HN.out]; omega)
        have hx := (hg k (by rw [← HN.out]; exact hkn)).keep OW.out
        obtain ⟨x, hxx⟩ : ∃ x, x = l.getD k Evt.zero := ⟨_, rfl⟩
        have HM : Hid (x ∈ l) := Lib.hid (by
          rw [hxx, List.getD_eq_getElem?_getD, List.getElem?_eq_getElem (by rw [← HN.out]; exact hkn)]
          exact List.getElem_mem _)
        have HT := Lib.hid (show l.take (k + 1) = l.take k ++ [x] from by rw [hxx]; exact take_snoc_getD l _ k (by rw [← HN.out]; exact hkn))
        rw [← hxx] at hx
        have HX0 := Lib.hid hx
        obtain ⟨c0, c1, c2, c3, c4⟩ := hx
        rw [hao]
        have hk1 : (0 : Int) ≤ (k : Int) := by omega
        have hk2 : (k : Int) < (n : Int) := by omega
        have VA := fun w' => refValid_any w' x
        unfold evV at VA
        have VAH := Lib.hid VA
        obtain ⟨S, hS⟩ : ∃ S, S = bs (fmtB (l.take k)) := ⟨_, rfl⟩
        have hSz : S.size ≤ 2000000 := by
          rw [hS]
          show (fmtB (l.take k)).toArray.size ≤ _
          have h1 := fmtB_len HV.out
          have h3 := List.length_take_le k l
          simp only [List.size_toArray]
          omega
        have HSE := Lib.hid hS
        rw [← hS]
        clear hg hxx hao VA hS
        cases hvx : validB x with
        | false =>
          rw [hvx] at VAH
          have HX := Lib.hid hvx
          clear hvx
          go_wp2_with fail
          refine (VAH.out _).mono ?_; rintro e w4 ⟨rfl, o4⟩
          go_wp2_with fail
          go_ret2
          exact ⟨by rw [NO.out x HM.out HX.out]; rfl, OW.out.then0 o4⟩
        | true =>
          rw [hvx] at VAH
          have HX := Lib.hid hvx
          have LN := Lib.hid (fun w' => refLine_any w' x hvx)
          unfold evV at LN
          obtain ⟨I, hI⟩ : ∃ I, I = bs (lineB x) := ⟨_, rfl⟩
          have zI : I.size ≤ 23 := by
            rw [hI]
            show (lineB x).toArray.size ≤ 23
            have := lineB_len hvx
            simpa using this
          have HI := Lib.hid hI
          rw [← hI] at LN
          clear hvx hI
          go_wp2_with fail
          refine (VAH.out _).mono ?_; rintro e w4 ⟨rfl, o4⟩
          have O4 := Lib.hid (OW.out.then0 o4)
          have hx4 := HX0.out.keep o4
          clear c0 c1 c2 c3 c4
          obtain ⟨c0, c1, c2, c3, c4⟩ := hx4
          clear o4
          go_wp2_with fail
          refine (LN.out _).mono ?_; rintro e w5 ⟨rfl, o5⟩
          have O5 := Lib.hid (O4.out.then0 o5)
          clear o5 c0 c1 c2 c3 c4
          go_wp2_with fail
          go_roundw
          case rel => exact ⟨k + 1, by first | rfl | (congr 1; omega), by omega, by
            rw [HT.out]
            intro y hy
            rcases List.mem_append.1 hy with h | h
            · exact HV.out y h
            · rw [List.mem_singleton.1 h]; exact HX.out, by
            rw [HT.out, fmtB_snoc, ← bs_app, ← HSE.out, ← HI.out], O5.out⟩
          case measure => simp [intOf]; omega
      · have hk2 : ¬ (k : Int) < (n : Int) := by omega
        have hkn' : k = n := by omega
        subst hkn'
        have hl : l.take k = l := by rw [HN.out]; exact List.take_length
        rw [hl]
        have HVl := Lib.hid (show ∀ x ∈ l, validB x = true from by have := HV.out; rwa [hl] at this)
        clear hl
        go_wp2_with fail
        go_ret2
        exact ⟨by rw [GO.out HVl.out]; rfl, OW.out⟩
end Go.Proofs.YtncnepmgmphanaaGreatDoor

namespace Go.Proofs.YtncnepmgmphanaaGreatDoor
open Go.RowKit
def blank : ByteArray := ⟨#[32]⟩
def wordsOf (s : ByteArray) : List ByteArray := Lib.splitB blank 0 (Lib.countB s blank) s
theorem wordsOf_pos (s : ByteArray) : 0 < (wordsOf s).length := by
  unfold wordsOf
  rw [Lib.splitB_all blank (by decide) 0 _ s rfl]; omega
def wordB (k : Nat) : ByteArray := ⟨(formAt k).word.toArray⟩
def formOf (w0 : ByteArray) : Nat → Option Nat
  | 0 => none
  | n + 1 => if wordB (19 - (n + 1)) = w0 then some (19 - (n + 1)) else formOf w0 n
theorem formOf_none {w0 : ByteArray} : ∀ n, n ≤ 19 → (∀ j, 19 - n ≤ j → j < 19 → wordB j ≠ w0) → formOf w0 n = none := by
  intro n
  induction n with
  | zero => intro _ _; rfl
  | succ n ih =>
    intro hn h
    unfold formOf
    rw [if_neg (h _ (Nat.le_refl _) (by omega))]
    exact ih (by omega) fun j h1 h2 => h j (by omega) h2
theorem formOf_some {w0 : ByteArray} {k : Nat} (hk : k < 19) (he : wordB k = w0) : ∀ n, n ≤ 19 → 19 - n ≤ k → (∀ j, 19 - n ≤ j → j < k → wordB j ≠ w0) → formOf w0 n = some k := by
  intro n
  induction n with
  | zero => intro _ h1; omega
  | succ n ih =>
    intro hn h1 h2
    unfold formOf
    by_cases e : 19 - (n + 1) = k
    · rw [e, if_pos he]
    · rw [if_neg (h2 _ (Nat.le_refl _) (by omega))]
      exact ih (by omega) (by omega) fun j h3 h4 => h2 j (by omega) h4
def fillTo (f : EForm) (ws : List ByteArray) : Nat → Option (List Int × List ByteArray)
  | 0 => some ([], ws)
  | i + 1 => match fillTo f ws i with
    | none => none
    | some (vs, rest) => if usAt f i then (match rest with
      | [] => none
      | r :: rest' => match atoiN r.data.toList with
        | none => none
        | some n => if (⟨(Lib.itoa n).toArray⟩ : ByteArray) = r then some (vs ++ [n], rest') else none) else some (vs ++ [0], rest)
theorem fillTo_le {f : EForm} {ws : List ByteArray} : ∀ i j, i ≤ j → fillTo f ws i = none → fillTo f ws j = none := by
  intro i j h hn
  induction j with
  | zero => obtain rfl : i = 0 := by omega
            exact hn
  | succ j ih =>
    by_cases e : i = j + 1
    · subst e; exact hn
    · unfold fillTo
      rw [ih (by omega)]
theorem fillTo_len {f : EForm} {ws : List ByteArray} : ∀ i vs rest, fillTo f ws i = some (vs, rest) → vs.length = i ∧ ∃ k, k ≤ ws.length ∧ rest = ws.drop k := by
  intro i
  induction i with
  | zero => intro vs rest h; simp [fillTo] at h; obtain ⟨rfl, rfl⟩ := h; exact ⟨rfl, 0, by omega, rfl⟩
  | succ i ih =>
    intro vs rest h
    unfold fillTo at h
    cases hf : fillTo f ws i with
    | none => rw [hf] at h; cases h
    | some p =>
      obtain ⟨v0, r0⟩ := p
      obtain ⟨h1, k, h2, h3⟩ := ih v0 r0 hf
      rw [hf] at h
      simp only at h
      split at h
      · cases r0 with
        | nil => cases h
        | cons r rest' =>
          simp only at h
          split at h
          · cases h
          · split at h
            · simp at h; obtain ⟨rfl, rfl⟩ := h
              refine ⟨by simp [h1], k + 1, ?_, ?_⟩
              · have := congrArg List.length h3; simp at this; omega
              · rw [← List.drop_drop, ← h3]; rfl
            · cases h
      · simp at h; obtain ⟨rfl, rfl⟩ := h
        exact ⟨by simp [h1], k, h2, h3⟩
def arr4 (vs : List Int) : Array Value := #[.int .i64 (vs.getD 0 0), .int .i64 (vs.getD 1 0), .int .i64 (vs.getD 2 0), .int .i64 (vs.getD 3 0)]
theorem getD_app (vs : List Int) (n : Int) (j : Nat) : (vs ++ [n]).getD j 0 = if j = vs.length then n else vs.getD j 0 := by
  simp only [List.getD_eq_getElem?_getD]
  by_cases h : j < vs.length
  · rw [List.getElem?_append_left h, if_neg (by omega)]
  · by_cases e : j = vs.length
    · subst e; simp
    · rw [if_neg e, List.getElem?_eq_none (by simp; omega), List.getElem?_eq_none (by omega)]
theorem arr4_zero (vs : List Int) : arr4 (vs ++ [0]) = arr4 vs := by
  have h : ∀ j, (vs ++ [(0 : Int)]).getD j 0 = vs.getD j 0 := fun j => by
    rw [getD_app]
    split
    · rename_i e; subst e; simp [List.getD_eq_getElem?_getD]
    · rfl
  simp only [arr4, h]
theorem arr4_set (vs : List Int) (n : Int) (h : vs.length < 4) : (arr4 vs).setIfInBounds vs.length (.int .i64 n) = arr4 (vs ++ [n]) := by
  rcases (show vs.length = 0 ∨ vs.length = 1 ∨ vs.length = 2 ∨ vs.length = 3 from by omega) with e | e | e | e <;> simp only [arr4, getD_app, e] <;> rfl
theorem arr4_at (vs : List Int) (j : Nat) (h : j < 4) : (arr4 vs)[j]? = some (.int .i64 (vs.getD j 0)) := by
  rcases (show j = 0 ∨ j = 1 ∨ j = 2 ∨ j = 3 from by omega) with rfl | rfl | rfl | rfl <;> rfl
theorem rest_head {f : EForm} {ws : List ByteArray} {i : Nat} {vs : List Int} {r : ByteArray} {rest : List ByteArray} (h : fillTo f ws.tail i = some (vs, r :: rest)) {o : Nat} (ho : o + (rest.length + 1) = ws.length) : ws.getD o ByteArray.empty = r ∧ r ∈ ws := by
  obtain ⟨-, k, hk, he⟩ := fillTo_len i vs _ h
  rw [List.drop_tail] at he
  have hl := congrArg List.length he
  simp at hl
  have hko : o = k + 1 := by simp at hk; omega
  subst hko
  have hg : ws[k + 1]? = some r := by
    have h2 := congrArg (fun l : List ByteArray => l[0]?) he
    simp at h2
    exact h2.symm
  exact ⟨by rw [List.getD_eq_getElem?_getD, hg]; rfl, List.mem_of_getElem? hg⟩
theorem splitB_size (sep : ByteArray) (n : Nat) : ∀ s, ∀ r ∈ Lib.splitB sep 0 n s, r.size ≤ s.size := by
  induction n with
  | zero => intro s r hr; simp [Lib.splitB] at hr; subst hr; exact Nat.le_refl _
  | succ n ih =>
    intro s r hr
    unfold Lib.splitB at hr
    split at hr
    · simp at hr; subst hr; exact Nat.le_refl _
    · rcases List.mem_cons.1 hr with rfl | h2
      · rw [ByteArray.size_extract]; omega
      · have := ih _ r h2
        rw [ByteArray.size_extract] at this; omega
theorem wordsOf_size {s r : ByteArray} (h : r ∈ wordsOf s) : r.size ≤ s.size := splitB_size _ _ _ _ h
theorem atoiN_bd {l : List UInt8} {n : Int} (h : atoiN l = some n) : -9223372036854775808 ≤ n ∧ n ≤ 9223372036854775807 := by
  unfold atoiN Lib.atoiAll at h
  split at h
  · rename_i v hv
    cases l with
    | nil => cases hv
    | cons c r =>
      simp only at hv
      split at hv
      · cases hv
      · cases hv
      · rename_i u hu
        split at hv
        · cases hv
        · split at hv
          · cases hv
          · rename_i h1 h2
            cases h
            injection hv with hv
            subst hv
            split
            · rename_i hn
              have : ¬ 9223372036854775808 < u := fun hh => h2 ⟨hn, hh⟩
              omega
            · rename_i hn
              have : ¬ 9223372036854775808 ≤ u := fun hh => h1 ⟨hn, hh⟩
              omega
  · cases h
def evOf (k : Nat) (vs : List Int) : Evt := ⟨(k : Int) + 1, vs.getD 0 0, vs.getD 1 0, vs.getD 2 0, vs.getD 3 0⟩
def readB (s : ByteArray) : Option Evt := match formOf ((wordsOf s).headD ByteArray.empty) 19 with
  | none => none
  | some k => match fillTo (formAt k) (wordsOf s).tail 4 with
    | none => none
    | some (vs, rest) => if rest = [] ∧ validB (evOf k vs) = true then some (evOf k vs) else none
end Go.Proofs.YtncnepmgmphanaaGreatDoor
