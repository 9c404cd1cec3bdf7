/- The reference's Sorted, walked (printed by gen_refsorted.py). -/
import Derived.Test.YtenamlckhcfflaaEdfRefValid
namespace Go.Proofs.Ytenamlckhcfflaa
open Go.RowKit Go.Sort
set_option linter.unusedVariables false



set_option maxRecDepth 100000 in
set_option maxHeartbeats 4000000 in
theorem refSorted_sl (w : World) (v : Value) (xs : List Int) (h : Sl w v xs) (hn : xs.length ≤ 1000000) :
    Calls Try.prog 17 #[v] w fun e w' => ∃ v', e = .returned v' ∧ Only [] w w' ∧ Sl w' v' (sortR xs) := by
  obtain ⟨i0, hi, hz0, hz1, hz2⟩ := info_parts info64
  obtain ⟨ao, cap, rfl, h1, h2, h3⟩ := h
  obtain ⟨n, hnn⟩ : ∃ n, n = xs.length := ⟨_, rfl⟩
  rw [← hnn] at hn ⊢
  have HN := Lib.hid hnn
  have H1 := Lib.hid h1
  clear h1 h2 h3 hnn
  go_enter Try.func17, Try.ntmps17
  go_wp2_with fail
  go_loopw [3, 4] (fun ov iv wr => ∃ (k : Nat) (L : List Int), k ≤ n ∧ iv = .int .i64 k ∧ Only [] w wr ∧ L = sortR (xs.take k) ∧ L.length = k ∧ (k = 0 → ov = .slice none 0 0) ∧ Sl wr ov L) (fun _ i _ => n - (intOf i).toNat)
  case atStart => exact ⟨0, [], Nat.zero_le _, rfl, Only.refl _ _, rfl, rfl, fun _ => rfl, Sl.nil _⟩
  case round =>
    obtain ⟨k, L, hk, rfl, hP, hL, hLk, hov, hS⟩ := hrel
    obtain ⟨wo, hwo⟩ : ∃ wo, wo = wr := ⟨_, rfl⟩
    subst hwo
    have P := Lib.hid hP
    have S := Lib.hid hS
    have HL := Lib.hid hL
    have HLK := Lib.hid hLk
    clear hL hLk
    by_cases hlt : k < n
    · obtain ⟨b, off, rfl, hc⟩ := H1.out.ints (by have := HN.out; omega)
      obtain ⟨x, hx⟩ : ∃ x, x = xs.getD k 0 := ⟨_, rfl⟩
      have hcx := hc k (by have := HN.out; omega)
      rw [← hx] at hcx
      have DX := Lib.hid hcx
      have d0 := hP.keepCell hcx (by simp)
      have SN := Lib.hid (show insL x L = sortR (xs.take (k + 1)) by rw [HL.out, hx, ← sortR_snoc, show xs.take (k + 1) = xs.take k ++ [xs.getD k 0] from by rw [List.take_succ_eq_append_getElem (by have := HN.out; omega)]; simp [List.getD, List.getElem?_eq_getElem (show k < xs.length by have := HN.out; omega)]])
      clear hc hx hcx hP
      rcases Nat.eq_zero_or_pos k with hk0 | hk0
      · have ho := hov hk0
        subst hk0
        subst ho
        have hL0 : L = [] := List.length_eq_zero_iff.1 HLK.out
        clear hov hS
        go_wp2_with fail
        go_loopw [5] (fun mv wr2 => mv = .int .i64 0 ∧ Only [] wo wr2) (fun _ _ => 0)
        case atStart => exact ⟨rfl, Only.refl _ _⟩
        case round =>
          obtain ⟨rfl, hP⟩ := hrel
          go_wp2_with fail
          go_quiet (fail)
          have oq := hP.drewN nq
          generalize hwq : wr.drewN nq = wq at oq ⊢
          have P1 := Lib.hid oq
          have E0 := Lib.hid hL0
          clear hwq oq hP hL0
          have HO := Lib.hid (fun w' (g : wo.heap.size ≤ w'.heap.size) => (World.ownsRow_made w' #[] 0 g (Nat.zero_le _) rfl : (w'.alloc (.cells #[] 23)).ownsRow wo.heap.size 23 1 (.slice (some ⟨w'.heap.size, 0, none⟩) 0 0) 0 []))
          have sz1 := P1.out.size
          go_wp2_with (at_builtin; refine wpList_append_cells _ rfl _ _ 22 rfl wo.heap.size 23 i0 (.int .u64 0) 1 8 Try.underlying22 hi hz0 hz1 hz2 rfl (by decide) _ _ _ rfl (HO.out _ sz1) none 0 0 [] rfl (fun _ => ⟨rfl, rfl⟩) rfl (fun _ e => by cases e) (by simp) (by unfold maxLen; omega) (by omega) (by first | omega | (simp; omega)) ?_)
          intro v1 w1 hown1 hgrow1 hnil1
          have P2 := Lib.hid ((P1.out.alloc (.cells #[] 23)).grown hgrow1 (fun q hq => .inr ((HO.out _ sz1).lt q hq).1))
          have q1 : Hid (w1.ownsRow wo.heap.size 23 1 v1 (0) ((L.take (0)).map (.int .u64))) := Lib.hid (by simpa using hown1)
          have W1 := fun (o : Obj) => q1.out.alloc o
          have dx := (P.out.then0 P2.out).keepCell DX.out (by simp)
          try rw [Nat.add_zero] at dx
          have sz2 := P2.out.size
          clear hown1 hgrow1 hnil1 sz1 HO
          go_wp2_with (at_builtin; refine wpList_append_own _ rfl _ _ 22 rfl wo.heap.size 23 i0 (.int .u64 0) 1 8 Try.underlying22 hi hz0 hz1 hz2 rfl (by decide) _ _ _ rfl (W1 _) ⟨w1.heap.size, 0, none⟩ 1 1 [.int .u64 x] rfl rfl (cell_one_new _ _ _) (by simp [Value.oneCell']) (by unfold maxLen; omega) (by omega) (by first | omega | (simp; omega)) ?_)
          intro v2 w2 hown2 hgrow2 hnil2
          have P3 := Lib.hid ((P2.out.alloc (.cells #[.int .u64 x] 23)).grown hgrow2 (fun q hq => .inr ((W1 (.cells #[.int .u64 x] 23)).lt q hq).1))
          have q2 : Hid (w2.ownsRow wo.heap.size 23 1 v2 (0 + 1) ((L.take (0) ++ [x]).map (.int .u64))) := Lib.hid (by simpa using hown2)
          have sz3 := P3.out.size
          clear hown2 hgrow2 hnil2 sz2 W1 dx
          go_wp2_with (at_builtin; refine wpList_append_cells _ rfl _ _ 22 rfl wo.heap.size 23 i0 (.int .u64 0) 1 8 Try.underlying22 hi hz0 hz1 hz2 rfl (by decide) _ _ _ rfl q2.out none 0 0 [] rfl (fun _ => ⟨rfl, rfl⟩) rfl (fun _ e => by cases e) (by simp) (by unfold maxLen; omega) (by omega) (by first | omega | (simp; omega)) ?_)
          intro v3 w3 hown3 hgrow3 hnil3
          have P4 := Lib.hid (P.out.then0 (P3.out.grown hgrow3 (fun q hq => .inr (q2.out.lt q hq).1)))
          have q3 : Hid (Sl w3 v3 (insL x L)) := Lib.hid (by
            have e : [Value.int .u64 x] = (insL x L).map (Value.int .u64) := (by rw [E0.out]; rfl)
            rw [e] at hown3
            exact sl_owns hown3)
          clear hown3 hgrow3 hnil3 sz3
          go_wp2_with fail
          go_roundw
          case rel => exact ⟨0 + 1, insL x L, by omega, by go_num, P4.out, SN.out, by rw [insL_length, HLK.out], fun e => by omega, q3.out⟩
          case measure => simp [intOf] <;> omega
      · obtain ⟨oo, oc, rfl, o1, o2, o3⟩ := hS
        obtain ⟨b2, off2, rfl, hc2⟩ := o1.ints (by rw [HLK.out]; exact hk0)
        rw [HLK.out] at o3 ⊢
        have C2 := Lib.hid hc2
        have O1 := Lib.hid o1
        clear hov o2 hc2 o1
        have K1 := Lib.hid (fun m w' (o : Only [] wo w') => (fun j u hu => (O1.out.keep0 o).news j u (by rw [List.map_take, List.getElem?_take] at hu; split at hu <;> first | exact hu | cases hu) : ∀ j u, ((L.take m).map (Value.int .u64))[j]? = some u → w'.cell? ((⟨b2, off2, none⟩ : Addr).add j) = some u))
        have K3 := Lib.hid (fun m w' (o : Only [] wo w') => cells_from (O1.out.keep0 o) m)
        obtain ⟨M, hM⟩ : ∃ M, M = cntL x L := ⟨_, rfl⟩
        have hMk : M ≤ k := by rw [hM, ← HLK.out]; exact cntL_le x L
        have HM := Lib.hid hM
        clear hM
        go_wp2_with fail
        go_loopw [5] (fun mv wr2 => ∃ m : Nat, m ≤ M ∧ mv = .int .i64 m ∧ Only [] wo wr2) (fun m _ => M - (intOf m).toNat)
        case atStart => exact ⟨0, Nat.zero_le _, rfl, Only.refl _ _⟩
        case round =>
          obtain ⟨m, hm, rfl, hP⟩ := hrel
          have PP := Lib.hid hP
          by_cases hmk : m < k
          · have c0 := fun (q : Nat) => (hP.drewN q).keepCell (C2.out m (by rw [HLK.out]; exact hmk)) (by simp)
            have c1 := fun (q : Nat) => ((P.out.then0 hP).drewN q).keepCell DX.out (by simp)
            have d1 := hP.keepCell (C2.out m (by rw [HLK.out]; exact hmk)) (by simp)
            have d2 := (P.out.then0 hP).keepCell DX.out (by simp)
            obtain ⟨y, hy⟩ : ∃ y, y = L.getD m 0 := ⟨_, rfl⟩
            rw [← hy] at c0 d1
            have HY := Lib.hid hy
            have g0 : decide (m < k) = true := by simp; exact hmk
            clear hy hP
            by_cases hyx : y ≤ x
            · have hmM : m < M := by
                rcases Nat.lt_or_ge m M with g | g
                · exact g
                · have e : m = M := by omega
                  have := cntL_stop (x := x) (l := L) (by rw [← HM.out, HLK.out, ← e]; exact hmk)
                  rw [← HM.out, ← e, ← HY.out] at this
                  omega
              go_wp2_with fail
              go_quiet (fail)
              clear g0
              go_wp2_with fail
              go_roundw
              case rel => exact ⟨m + 1, by omega, by go_num, PP.out.drewN _⟩
              case measure => simp [intOf] <;> omega
            · obtain rfl : m = M := by
                rcases Nat.lt_or_ge m M with g | g
                · have := cntL_go (x := x) (l := L) (k := m) (by rw [← HM.out]; exact g)
                  rw [← HY.out] at this
                  omega
                · omega
              have hyx2 : x < y := by omega
              go_wp2_with fail
              go_quiet (fail)
              clear g0 c0 c1 d1 d2
              have oq := PP.out.drewN nq
              generalize hwq : wr.drewN nq = wq at oq ⊢
              have P1 := Lib.hid oq
              clear hwq oq
              have HO := Lib.hid (fun w' (g : wo.heap.size ≤ w'.heap.size) => (World.ownsRow_made w' #[] 0 g (Nat.zero_le _) rfl : (w'.alloc (.cells #[] 23)).ownsRow wo.heap.size 23 1 (.slice (some ⟨w'.heap.size, 0, none⟩) 0 0) 0 []))
              have sz1 := P1.out.size
              go_wp2_with (at_builtin; refine wpList_append_own _ rfl _ _ 22 rfl wo.heap.size 23 i0 (.int .u64 0) 1 8 Try.underlying22 hi hz0 hz1 hz2 rfl (by decide) _ _ _ rfl (HO.out _ sz1) ⟨b2, off2, none⟩ m oc ((L.take m).map (.int .u64)) rfl (by rw [List.length_map, List.length_take, HLK.out]; omega) (K1.out m _ (P1.out.alloc _)) (oneCell_u64 _) (by unfold maxLen; omega) (by omega) (by first | omega | (simp; omega)) ?_)
              intro v1 w1 hown1 hgrow1 hnil1
              have P2 := Lib.hid ((P1.out.alloc (.cells #[] 23)).grown hgrow1 (fun q hq => .inr ((HO.out _ sz1).lt q hq).1))
              have q1 : Hid (w1.ownsRow wo.heap.size 23 1 v1 (m) ((L.take (m)).map (.int .u64))) := Lib.hid (by simpa using hown1)
              have W1 := fun (o : Obj) => q1.out.alloc o
              have dx := (P.out.then0 P2.out).keepCell DX.out (by simp)
              try rw [Nat.add_zero] at dx
              have sz2 := P2.out.size
              clear hown1 hgrow1 hnil1 sz1 HO
              go_wp2_with (at_builtin; refine wpList_append_own _ rfl _ _ 22 rfl wo.heap.size 23 i0 (.int .u64 0) 1 8 Try.underlying22 hi hz0 hz1 hz2 rfl (by decide) _ _ _ rfl (W1 _) ⟨w1.heap.size, 0, none⟩ 1 1 [.int .u64 x] rfl rfl (cell_one_new _ _ _) (by simp [Value.oneCell']) (by unfold maxLen; omega) (by omega) (by first | omega | (simp; omega)) ?_)
              intro v2 w2 hown2 hgrow2 hnil2
              have P3 := Lib.hid ((P2.out.alloc (.cells #[.int .u64 x] 23)).grown hgrow2 (fun q hq => .inr ((W1 (.cells #[.int .u64 x] 23)).lt q hq).1))
              have q2 : Hid (w2.ownsRow wo.heap.size 23 1 v2 (m + 1) ((L.take (m) ++ [x]).map (.int .u64))) := Lib.hid (by simpa using hown2)
              have sz3 := P3.out.size
              clear hown2 hgrow2 hnil2 sz2 W1 dx
              go_wp2_with (at_builtin; refine wpList_append_own _ rfl _ _ 22 rfl wo.heap.size 23 i0 (.int .u64 0) 1 8 Try.underlying22 hi hz0 hz1 hz2 rfl (by decide) _ _ _ rfl q2.out ⟨b2, off2 + m, none⟩ (k - m) (oc - m) ((L.drop m).map (.int .u64)) rfl (by rw [List.length_map, List.length_drop, HLK.out]; omega) (K3.out m _ P3.out) (oneCell_u64 _) (by unfold maxLen; omega) (by omega) (by first | omega | (simp; omega)) ?_)
              intro v3 w3 hown3 hgrow3 hnil3
              have P4 := Lib.hid (P.out.then0 (P3.out.grown hgrow3 (fun q hq => .inr (q2.out.lt q hq).1)))
              have q3 : Hid (Sl w3 v3 (insL x L)) := Lib.hid (by
                have e : (L.map (Value.int .u64)).take m ++ Value.int .u64 x :: (L.map (Value.int .u64)).drop m = (insL x L).map (Value.int .u64) := (by rw [insL_cut, ← HM.out, List.map_append, List.map_cons, List.map_take, List.map_drop])
                rw [e] at hown3
                exact sl_owns hown3)
              clear hown3 hgrow3 hnil3 sz3
              go_wp2_with fail
              go_roundw
              case rel => exact ⟨k + 1, insL x L, by omega, by go_num, P4.out, SN.out, by rw [insL_length, HLK.out], fun e => by omega, q3.out⟩
              case measure => simp [intOf] <;> omega
          · have hmM : m = M := by omega
            have hmk2 : k = m := by omega
            subst hmk2
            subst hmM
            have P1 := PP
            clear hP
            go_wp2_with fail
            go_quiet (fail)
            have oq := PP.out.drewN nq
            generalize hwq : wr.drewN nq = wq at oq ⊢
            have P1 := Lib.hid oq
            clear hwq oq
            have HO := Lib.hid (fun w' (g : wo.heap.size ≤ w'.heap.size) => (World.ownsRow_made w' #[] 0 g (Nat.zero_le _) rfl : (w'.alloc (.cells #[] 23)).ownsRow wo.heap.size 23 1 (.slice (some ⟨w'.heap.size, 0, none⟩) 0 0) 0 []))
            have sz1 := P1.out.size
            go_wp2_with (at_builtin; refine wpList_append_own _ rfl _ _ 22 rfl wo.heap.size 23 i0 (.int .u64 0) 1 8 Try.underlying22 hi hz0 hz1 hz2 rfl (by decide) _ _ _ rfl (HO.out _ sz1) ⟨b2, off2, none⟩ k oc ((L.take k).map (.int .u64)) rfl (by rw [List.length_map, List.length_take, HLK.out]; omega) (K1.out k _ (P1.out.alloc _)) (oneCell_u64 _) (by unfold maxLen; omega) (by omega) (by first | omega | (simp; omega)) ?_)
            intro v1 w1 hown1 hgrow1 hnil1
            have P2 := Lib.hid ((P1.out.alloc (.cells #[] 23)).grown hgrow1 (fun q hq => .inr ((HO.out _ sz1).lt q hq).1))
            have q1 : Hid (w1.ownsRow wo.heap.size 23 1 v1 (k) ((L.take (k)).map (.int .u64))) := Lib.hid (by simpa using hown1)
            have W1 := fun (o : Obj) => q1.out.alloc o
            have dx := (P.out.then0 P2.out).keepCell DX.out (by simp)
            try rw [Nat.add_zero] at dx
            have sz2 := P2.out.size
            clear hown1 hgrow1 hnil1 sz1 HO
            go_wp2_with (at_builtin; refine wpList_append_own _ rfl _ _ 22 rfl wo.heap.size 23 i0 (.int .u64 0) 1 8 Try.underlying22 hi hz0 hz1 hz2 rfl (by decide) _ _ _ rfl (W1 _) ⟨w1.heap.size, 0, none⟩ 1 1 [.int .u64 x] rfl rfl (cell_one_new _ _ _) (by simp [Value.oneCell']) (by unfold maxLen; omega) (by omega) (by first | omega | (simp; omega)) ?_)
            intro v2 w2 hown2 hgrow2 hnil2
            have P3 := Lib.hid ((P2.out.alloc (.cells #[.int .u64 x] 23)).grown hgrow2 (fun q hq => .inr ((W1 (.cells #[.int .u64 x] 23)).lt q hq).1))
            have q2 : Hid (w2.ownsRow wo.heap.size 23 1 v2 (k + 1) ((L.take (k) ++ [x]).map (.int .u64))) := Lib.hid (by simpa using hown2)
            have sz3 := P3.out.size
            clear hown2 hgrow2 hnil2 sz2 W1 dx
            by_cases hoc : oc = k
            · go_wp2_with (at_builtin; refine wpList_append_own _ rfl _ _ 22 rfl wo.heap.size 23 i0 (.int .u64 0) 1 8 Try.underlying22 hi hz0 hz1 hz2 rfl (by decide) _ _ _ rfl q2.out ⟨b2, off2, none⟩ 0 0 [] rfl rfl (fun j u hu => by cases hu) (by simp) (by unfold maxLen; omega) (by omega) (by first | omega | (simp; omega)) ?_)
              intro v3 w3 hown3 hgrow3 hnil3
              have P4 := Lib.hid (P.out.then0 (P3.out.grown hgrow3 (fun q hq => .inr (q2.out.lt q hq).1)))
              have q3 : Hid (Sl w3 v3 (insL x L)) := Lib.hid (by
                have e : (L.map (Value.int .u64)).take k ++ [Value.int .u64 x] = (insL x L).map (Value.int .u64) := (by rw [insL_cut, ← HM.out, List.map_append, List.map_cons, List.map_take, List.drop_of_length_le (by rw [HLK.out]; omega)]; rfl)
                rw [e] at hown3
                exact sl_owns hown3)
              clear hown3 hgrow3 hnil3 sz3
              go_wp2_with fail
              go_roundw
              case rel => exact ⟨k + 1, insL x L, by omega, by go_num, P4.out, SN.out, by rw [insL_length, HLK.out], fun e => by omega, q3.out⟩
              case measure => simp [intOf] <;> omega
            · go_wp2_with (at_builtin; refine wpList_append_own _ rfl _ _ 22 rfl wo.heap.size 23 i0 (.int .u64 0) 1 8 Try.underlying22 hi hz0 hz1 hz2 rfl (by decide) _ _ _ rfl q2.out ⟨b2, off2 + k, none⟩ 0 (oc - k) [] rfl rfl (fun j u hu => by cases hu) (by simp) (by unfold maxLen; omega) (by omega) (by first | omega | (simp; omega)) ?_)
              intro v3 w3 hown3 hgrow3 hnil3
              have P4 := Lib.hid (P.out.then0 (P3.out.grown hgrow3 (fun q hq => .inr (q2.out.lt q hq).1)))
              have q3 : Hid (Sl w3 v3 (insL x L)) := Lib.hid (by
                have e : (L.map (Value.int .u64)).take k ++ [Value.int .u64 x] = (insL x L).map (Value.int .u64) := (by rw [insL_cut, ← HM.out, List.map_append, List.map_cons, List.map_take, List.drop_of_length_le (by rw [HLK.out]; omega)]; rfl)
                rw [e] at hown3
                exact sl_owns hown3)
              clear hown3 hgrow3 hnil3 sz3
              go_wp2_with fail
              go_roundw
              case rel => exact ⟨k + 1, insL x L, by omega, by go_num, P4.out, SN.out, by rw [insL_length, HLK.out], fun e => by omega, q3.out⟩
              case measure => simp [intOf] <;> omega
    · obtain rfl : k = n := by omega
      clear hP hS
      go_wp2_with fail
      go_ret
      refine ⟨_, rfl, P.out, ?_⟩
      have e : L = sortR xs := by rw [HL.out, HN.out, List.take_length]
      rw [← e]
      exact S.out
end Go.Proofs.Ytenamlckhcfflaa
