/- What Fair of package script computes. -/
import Derived.Test.YtfhmphbfngdkeaaScriptFairP
namespace Go.Proofs.Ytfhmphbfngdkeaa
open Go.RowKit Go.Maps
set_option linter.unusedVariables false

theorem zeroInt (w : World) : (zeroValue 3).run Try.prog w = .ok (.int .i64 0) w := by kernel_rfl

theorem fair_none (w : World) (v : Value) (m k : Int) (h : m < 1 ∨ k < 1) :
    Calls Try.prog 24 #[v, .int .i64 m, .int .i64 k] w fun e w' => e = .returned (.bool false) ∧ w = w' := by
  by_cases hk : k < 1
  · clear h
    go_enter Try.func24, Try.ntmps24
    go_wp2_with fail
    try go_step3
    try go_wp2_with fail
    try rw [Exit.noGoto_ret]
    go_ret
    exact ⟨rfl, rfl⟩
  · have hm : m < 1 := by omega
    clear h
    go_enter Try.func24, Try.ntmps24
    go_wp2_with fail
    try go_step3
    try go_wp2_with fail
    try rw [Exit.noGoto_ret]
    go_ret
    exact ⟨rfl, rfl⟩

set_option maxRecDepth 100000 in
set_option maxHeartbeats 4000000 in
theorem fair_some (w : World) (ao : Option Addr) (cap n : Nat) (l : List E) (h : CellsAt w ao (flat l)) (hn : n = l.length) (hn2 : n ≤ 1000000) (m : Nat) (hm : 1 ≤ m) (hm2 : (m : Int) ≤ 9223372036854775807) (k : Nat) (hk : 1 ≤ k) (hk2 : (k : Int) ≤ 9223372036854775807) :
    Calls Try.prog 24 #[.slice ao n cap, .int .i64 m, .int .i64 k] w fun e w' => e = .returned (.bool (fairB m k l)) ∧ Only [] w w' := by
  have HN := Lib.hid hn
  have H := Lib.hid h
  have HM2 := Lib.hid hm2
  have hmm := @run_makeMap Try.prog
  have hm4 : 1 ≤ (m : Int) := by omega
  have hk4 : 1 ≤ (k : Int) := by omega
  have h0 : Hid (CntIs (w.alloc (.map #[] 0)) w.heap.size (fun _ => 0) (m + 1) 0) := Lib.hid ⟨.map [], World.ownsMap_made _ _ _ _, Maps.tidy_empty, by rw [cntF_congr (g := fun _ => false) (fun p _ => by simp), cntF_none]; rfl, fun p _ => ⟨rfl, rfl⟩⟩
  clear h hn hm2
  go_enter Try.func24, Try.ntmps24
  go_wp2_with fail
  go_loopw [21] (fun iv wr => ∃ (i : Nat), i ≤ n ∧ iv = .int .i64 i ∧ (∀ j, j + k ≤ i → complB m ((l.take (j + k)).drop j) = true) ∧ CntIs wr w.heap.size (occ m ((l.take i).drop (i - k))) (m + 1) (2 * i) ∧ Only [] w wr) (fun iv _ => n - (intOf iv).toNat)
  case atStart => exact ⟨0, Nat.zero_le _, rfl, fun j hj => by omega, h0.out.congr (fun p _ => by simp [occ]), (Only.refl _ _).alloc _⟩
  case round =>
    obtain ⟨i, hi, rfl, hwin, hset, hP⟩ := hrel
    have HW := Lib.hid hwin
    have HSet := Lib.hid hset
    have P := Lib.hid hP
    clear hwin hset h0
    by_cases hlt : i < n
    · obtain ⟨b, off, rfl, hc⟩ := cells_entry H.out (by have := HN.out; omega)
      have c0 := hP.keepCell (hc i (by have := HN.out; omega)).1 (by simp)
      have c1 := hP.keepCell (hc i (by have := HN.out; omega)).2 (by simp)
      have HCell := Lib.hid hc
      have HPart := Lib.hid (part_snoc (l := l) (k := i) (fr := i - k) (by have := HN.out; omega) (by omega))
      obtain ⟨e, he⟩ : ∃ e, e = l.getD i (0, 0) := ⟨_, rfl⟩
      rw [← he] at c0 c1 HPart
      clear hc he hP
      obtain ⟨a1, a2⟩ := e
      simp only at c0 c1
      have HSn := Lib.hid (fun p => occ_snoc m ((l.take i).drop (i - k)) (a1, a2) p)
      have PL := fun w => Lib.hid (place_any a1 a2 m w HM2.out)
      obtain ⟨pb1, pb2⟩ := placeI_bd (a1, a2) m hm4
      obtain ⟨p, hp⟩ : ∃ p, p = placeI (a1, a2) m := ⟨_, rfl⟩
      rw [← hp] at PL pb1 pb2
      have HPl := Lib.hid hp
      clear hp
      go_wp2_with fail
      refine (PL _).out.mono ?_; rintro e w1 ⟨rfl, o1⟩
      have hs1 : wr.heap.size ≤ w1.heap.size := Nat.le_trans (by simp) o1.size
      have O1 := Lib.hid (((Only.refl [] wr).alloc (.cells #[.int .i64 a1, .int .i64 a2] 35)).then0 o1)
      have P1 := Lib.hid (P.out.then0 O1.out)
      have hsx : w.heap.size ≤ w1.heap.size := P1.out.size
      clear o1 PL c0 c1
      by_cases hp0 : p < 0
      · have HC : Hid (CntIs w1 w.heap.size (occ m ((l.take (i + 1)).drop (i - k))) (m + 1) (2 * i + 1)) := Lib.hid (by
          obtain ⟨D, g1, g⟩ := HSet.out
          refine CntIs.congr (C := occ m ((l.take i).drop (i - k))) ⟨D, (g1.mono (by omega)).kept ⟨O1.out.os, O1.out.tape, O1.out.output, O1.out.size, fun k hk _ => O1.out.block k hk (by simp)⟩ (by simp : some w.heap.size ≠ none), g⟩ (fun q hq => ?_)
          rw [HPart.out, HSn.out, if_neg (by rw [← HPl.out]; omega)]; rfl)
        have PX := P1
        clear HSet P1 P O1
        generalize w1 = wx at *
        by_cases hik : i < k
        · have HCE : Hid (CntIs wx w.heap.size (occ m ((l.take (i + 1)).drop (i + 1 - k))) (m + 1) (2 * (i + 1))) := Lib.hid (by
            rw [show i + 1 - k = i - k by omega]
            obtain ⟨D, g1, g⟩ := HC.out
            exact ⟨D, g1.mono (by omega), g⟩)
          have PY := PX
          by_cases hik2 : i + 1 < k
          · go_wp2_with fail
            go_roundw
            case rel => exact ⟨i + 1, by omega, by go_num, fair_more HW.out (fun h => by omega), HCE.out, PY.out⟩
            case measure => simp [intOf]; omega
          · have hki : k ≤ i + 1 := by omega
            obtain ⟨D5, f1, f2, f3, f4⟩ := HCE.out
            have F1 := Lib.hid f1
            obtain ⟨cc, hcc⟩ : ∃ cc, cc = Maps.size D5 := ⟨_, rfl⟩
            have HCC := Lib.hid (size_compl hm (hcc.trans f3))
            have hsz : Maps.size D5 = cc := hcc.symm
            have hccm := HCC.out.2
            clear f1 f2 f3 f4 hcc
            by_cases hcm : cc ≤ m
            · have HF : Hid (fairB m k l = false) := Lib.hid (fair_false (i := i) (by have := HN.out; omega) (by omega) (fun h => by have := HCC.out.1.1 h; omega))
              go_wp2_with (at_len; refine wpList_len_want _ rfl _ 55 rfl 3 3 Try.underlying55 _ w.heap.size _ D5 rfl F1.out ?_)
              go_ret
              exact ⟨by rw [HF.out]; rfl, PY.out⟩
            · have hcm2 : m < cc := by omega
              go_wp2_with (at_len; refine wpList_len_want _ rfl _ 55 rfl 3 3 Try.underlying55 _ w.heap.size _ D5 rfl F1.out ?_)
              go_roundw
              case rel => exact ⟨i + 1, by omega, by go_num, fair_more HW.out (fun _ => HCC.out.1.2 (by omega)), HCE.out, PY.out⟩
              case measure => simp [intOf]; omega
        · obtain ⟨j, rfl⟩ : ∃ j, i = k + j := ⟨i - k, by omega⟩
          have hij : ((k + j : Nat) : Int) - (k : Int) = (j : Int) := by omega
          have d0 := PX.out.keepCell (HCell.out j (by have := HN.out; omega)).1 (by simp)
          have d1 := PX.out.keepCell (HCell.out j (by have := HN.out; omega)).2 (by simp)
          have HT0 := Lib.hid (part_tail (l := l) (i := k + j + 1) (f := j) (by omega) (by have := HN.out; omega))
          have HC0 : Hid (CntIs wx w.heap.size (occ m ((l.take (k + j + 1)).drop j)) (m + 1) (2 * (k + j) + 1)) := Lib.hid (by have := HC.out; rwa [show k + j - k = j by omega] at this)
          have HLn : Hid (((l.take (k + j + 1)).drop j).length ≤ 1000001) := Lib.hid (by rw [List.length_drop, List.length_take]; omega)
          have HEJ : Hid (k + j + 1 - k = j + 1) := Lib.hid (by omega)
          obtain ⟨e2, he2⟩ : ∃ e2, e2 = l.getD j (0, 0) := ⟨_, rfl⟩
          rw [← he2] at d0 d1 HT0
          obtain ⟨b1, b2⟩ := e2
          simp only at d0 d1
          have HS2 := Lib.hid (fun p => occ_cons m ((l.take (k + j + 1)).drop (j + 1)) (b1, b2) p)
          have PL2 := fun w => Lib.hid (place_any b1 b2 m w HM2.out)
          obtain ⟨qb1, qb2⟩ := placeI_bd (b1, b2) m hm4
          obtain ⟨p2, hp2⟩ : ∃ p2, p2 = placeI (b1, b2) m := ⟨_, rfl⟩
          rw [← hp2] at PL2 qb1 qb2
          have HPl2 := Lib.hid hp2
          clear hp2 he2 HC
          go_wp2_with fail
          refine (PL2 _).out.mono ?_; rintro e w5 ⟨rfl, o5⟩
          have HC5 : Hid (CntIs w5 w.heap.size (occ m ((l.take (k + j + 1)).drop j)) (m + 1) (2 * (k + j) + 1)) := Lib.hid (by
            obtain ⟨D, g1, g⟩ := HC0.out
            exact ⟨D, g1.kept (row := none) ⟨o5.os, o5.tape, o5.output, o5.size, fun k hk _ => o5.block k hk (by simp)⟩ (by simp), g⟩)
          have P5 := Lib.hid (PX.out.then0 o5)
          have HSZ5 : Hid (w.heap.size ≤ w5.heap.size) := Lib.hid (Nat.le_trans hsx o5.size)
          clear o5 PL2 d0 d1 HC0
          by_cases hq0 : p2 < 0
          · have HCE : Hid (CntIs w5 w.heap.size (occ m ((l.take (k + j + 1)).drop (k + j + 1 - k))) (m + 1) (2 * (k + j + 1))) := Lib.hid (by
              rw [HEJ.out]
              obtain ⟨D, g1, g⟩ := HC5.out
              refine CntIs.congr (C := occ m ((l.take (k + j + 1)).drop j)) ⟨D, g1.mono (by omega), g⟩ (fun q hq => ?_)
              rw [HT0.out, HS2.out, if_neg (by rw [← HPl2.out]; omega)]; rfl)
            have PY := P5
            clear HC5
            obtain ⟨D5, f1, f2, f3, f4⟩ := HCE.out
            have F1 := Lib.hid f1
            obtain ⟨cc, hcc⟩ : ∃ cc, cc = Maps.size D5 := ⟨_, rfl⟩
            have HCC := Lib.hid (size_compl hm (hcc.trans f3))
            have hsz : Maps.size D5 = cc := hcc.symm
            have hccm := HCC.out.2
            clear f1 f2 f3 f4 hcc
            by_cases hcm : cc ≤ m
            · have HF : Hid (fairB m k l = false) := Lib.hid (fair_false (i := (k + j)) (by have := HN.out; omega) (by omega) (fun h => by have := HCC.out.1.1 h; omega))
              go_wp2_with (at_len; refine wpList_len_want _ rfl _ 55 rfl 3 3 Try.underlying55 _ w.heap.size _ D5 rfl F1.out ?_)
              go_ret
              exact ⟨by rw [HF.out]; rfl, PY.out⟩
            · have hcm2 : m < cc := by omega
              go_wp2_with (at_len; refine wpList_len_want _ rfl _ 55 rfl 3 3 Try.underlying55 _ w.heap.size _ D5 rfl F1.out ?_)
              go_roundw
              case rel => exact ⟨(k + j) + 1, by omega, by go_num, fair_more HW.out (fun _ => HCC.out.1.2 (by omega)), HCE.out, PY.out⟩
              case measure => simp [intOf]; omega
          · obtain ⟨q2, rfl⟩ : ∃ q2 : Nat, p2 = q2 := ⟨p2.toNat, by omega⟩
            obtain ⟨D, g1, g2, g3, g4⟩ := HC5.out
            have G1 := Lib.hid g1
            have hkey2 : keyOf Try.prog 3 (.int .i64 (q2 : Int)) = some (.int .i64 (q2 : Int)) := keyOf_int_mk Try.underlying3 (by have := HM2.out; simp [Lit.wf, IntKind.min, IntKind.max, IntKind.signed, IntKind.bits]; omega)
            have HO : Hid (occ m ((l.take (k + j + 1)).drop j) q2 = occ m ((l.take (k + j + 1)).drop (j + 1)) q2 + 1) := Lib.hid (by rw [HT0.out, HS2.out, if_pos HPl2.out.symm])
            have HOther : Hid (∀ p, p ≠ q2 → occ m ((l.take (k + j + 1)).drop j) p = occ m ((l.take (k + j + 1)).drop (j + 1)) p) := Lib.hid (fun p hp => by rw [HT0.out, HS2.out, if_neg (by rw [← HPl2.out]; omega)]; rfl)
            have hle := occ_le m ((l.take (k + j + 1)).drop j) q2
            have hle2 : occ m ((l.take (k + j + 1)).drop j) q2 ≤ 1000001 := by have := HLn.out; omega
            obtain ⟨d, hd⟩ : ∃ d, d = occ m ((l.take (k + j + 1)).drop (j + 1)) q2 := ⟨_, rfl⟩
            have hdb : d ≤ 1000000 := by have := HO.out; omega
            have HD := Lib.hid hd
            have HAt : Hid (D.atKey (.int .i64 q2) (.lit (.int .i64 0)) = .lit (.int .i64 ((d : Int) + 1))) := Lib.hid (by rw [(g4 q2 (by omega)).2, HO.out, ← hd]; rfl)
            have GP := fun (hd0 : 0 < d) => Lib.hid (cnt_put (v := d) (by omega : q2 < m + 1) hd0 g2 g3 g4)
            have GD := Lib.hid (cnt_del (d := .lit (.int .i64 (d : Int))) (by omega : q2 < m + 1) g2 g3 g4)
            have HAt2 : Hid ((D.put (.int .i64 q2) (.lit (.int .i64 (d : Int)))).atKey (.int .i64 q2) (.lit (.int .i64 0)) = .lit (.int .i64 (d : Int))) := Lib.hid (Maps.atKey_put_same g2.isMap (keyLit' _) _ _)
            have HNew : Hid (∀ p, p < m + 1 → setC (occ m ((l.take (k + j + 1)).drop j)) q2 d p = occ m ((l.take (k + j + 1)).drop (k + j + 1 - k)) p) := Lib.hid (fun p _ => by
              rw [HEJ.out]
              unfold setC
              by_cases e : p = q2
              · rw [if_pos e, e, hd]
              · rw [if_neg e, HOther.out p e])
            clear g1 g2 g3 g4 hd hle hle2 HC5 HO HOther
            by_cases hd0 : d = 0
            · subst hd0
              rw [Int.natCast_zero] at GD HAt2
              go_wp2_with (first | (at_lookup; refine wpList_lookup_own_int _ rfl _ _ 55 rfl 3 3 .i64 lawInt Try.underlying55 Try.underlying3 (zeroInt _) w.heap.size _ D rfl G1.out _ _ rfl hkey2 ?_; intro c hat hwc; obtain rfl : c = 1 := (by rw [HAt.out] at hat; simpa using hat.symm); clear hat hwc) | (at_mapUpdate; refine wpList_mapUpdate_own _ rfl _ _ _ 55 rfl 3 3 lawInt Try.underlying55 _ w.heap.size _ D rfl G1.out (by unfold maxLen; omega) _ _ _ rfl rfl hkey2 _ [] (plainElem_int Try.underlying3 (by simp [Lit.wf, IntKind.min, IntKind.max, IntKind.signed, IntKind.bits])) ?_))
              intro w6 hown6 hgrow6
              have F6 : Hid (w6.ownsMap Try.prog 3 (plainElem Try.prog 3) w.heap.size (2 * (k + j) + 1 + 1) (D.put (.int .i64 (q2 : Int)) (.lit (.int .i64 0)))) := Lib.hid hown6
              have P6 := Lib.hid (P5.out.grown hgrow6 (fun t ht => by cases ht; exact .inr (Nat.le_refl _)))
              clear hown6 hgrow6
              go_wp2_with (first | (at_lookup; refine wpList_lookup_own_int _ rfl _ _ 55 rfl 3 3 .i64 lawInt Try.underlying55 Try.underlying3 (zeroInt _) w.heap.size _ _ rfl F6.out _ _ rfl hkey2 ?_; intro c hat hwc; obtain rfl : c = 0 := (by rw [HAt2.out] at hat; simpa using hat.symm); clear hat hwc) | (at_delete; refine wpList_delete_own _ rfl _ _ 55 3 rfl 3 lawInt Try.underlying55 _ w.heap.size _ _ rfl F6.out _ _ rfl hkey2 ?_))
              intro w7 hown7 hturn7
              have PY := Lib.hid (P6.out.grown hturn7.grown (fun t ht => by cases ht; exact .inr (Nat.le_refl _)))
              have HCE : Hid (CntIs w7 w.heap.size (occ m ((l.take (k + j + 1)).drop (k + j + 1 - k))) (m + 1) (2 * (k + j + 1))) := Lib.hid (CntIs.congr ⟨_, hown7.mono (by omega), GD.out⟩ HNew.out)
              clear hown7 hturn7
              obtain ⟨D5, f1, f2, f3, f4⟩ := HCE.out
              have F1 := Lib.hid f1
              obtain ⟨cc, hcc⟩ : ∃ cc, cc = Maps.size D5 := ⟨_, rfl⟩
              have HCC := Lib.hid (size_compl hm (hcc.trans f3))
              have hsz : Maps.size D5 = cc := hcc.symm
              have hccm := HCC.out.2
              clear f1 f2 f3 f4 hcc
              by_cases hcm : cc ≤ m
              · have HF : Hid (fairB m k l = false) := Lib.hid (fair_false (i := (k + j)) (by have := HN.out; omega) (by omega) (fun h => by have := HCC.out.1.1 h; omega))
                go_wp2_with (at_len; refine wpList_len_want _ rfl _ 55 rfl 3 3 Try.underlying55 _ w.heap.size _ D5 rfl F1.out ?_)
                go_ret
                exact ⟨by rw [HF.out]; rfl, PY.out⟩
              · have hcm2 : m < cc := by omega
                go_wp2_with (at_len; refine wpList_len_want _ rfl _ 55 rfl 3 3 Try.underlying55 _ w.heap.size _ D5 rfl F1.out ?_)
                go_roundw
                case rel => exact ⟨(k + j) + 1, by omega, by go_num, fair_more HW.out (fun _ => HCC.out.1.2 (by omega)), HCE.out, PY.out⟩
                case measure => simp [intOf]; omega
            · have hdi : ((d : Int) == 0) = false := by simp; omega
              have hdi2 : decide ((d : Int) = 0) = false := by simp; omega
              have hdp : 0 < d := by omega
              have hda : (d : Int) + 1 - 1 = d := by omega
              go_wp2_with (first | (at_lookup; refine wpList_lookup_own_int _ rfl _ _ 55 rfl 3 3 .i64 lawInt Try.underlying55 Try.underlying3 (zeroInt _) w.heap.size _ D rfl G1.out _ _ rfl hkey2 ?_; intro c hat hwc; obtain rfl : c = (d : Int) + 1 := (by rw [HAt.out] at hat; simpa using hat.symm); clear hat hwc) | (at_mapUpdate; refine wpList_mapUpdate_own _ rfl _ _ _ 55 rfl 3 3 lawInt Try.underlying55 _ w.heap.size _ D rfl G1.out (by unfold maxLen; omega) _ _ _ rfl rfl hkey2 _ [] (plainElem_int Try.underlying3 (by simp [Lit.wf, IntKind.min, IntKind.max, IntKind.signed, IntKind.bits] <;> omega)) ?_))
              intro w6 hown6 hgrow6
              have F6 : Hid (w6.ownsMap Try.prog 3 (plainElem Try.prog 3) w.heap.size (2 * (k + j) + 1 + 1) (D.put (.int .i64 (q2 : Int)) (.lit (.int .i64 (d : Int))))) := Lib.hid hown6
              have PY := Lib.hid (P5.out.grown hgrow6 (fun t ht => by cases ht; exact .inr (Nat.le_refl _)))
              clear hown6 hgrow6
              go_wp2_with (at_lookup; refine wpList_lookup_own_int _ rfl _ _ 55 rfl 3 3 .i64 lawInt Try.underlying55 Try.underlying3 (zeroInt _) w.heap.size _ _ rfl F6.out _ _ rfl hkey2 ?_)
              intro c hat hwc
              obtain rfl : c = (d : Int) := (by rw [HAt2.out] at hat; simpa using hat.symm)
              clear hat hwc
              have HCE : Hid (CntIs w6 w.heap.size (occ m ((l.take (k + j + 1)).drop (k + j + 1 - k))) (m + 1) (2 * (k + j + 1))) := Lib.hid (CntIs.congr ⟨_, F6.out.mono (by omega), (GP hdp).out⟩ HNew.out)
              obtain ⟨D5, f1, f2, f3, f4⟩ := HCE.out
              have F1 := Lib.hid f1
              obtain ⟨cc, hcc⟩ : ∃ cc, cc = Maps.size D5 := ⟨_, rfl⟩
              have HCC := Lib.hid (size_compl hm (hcc.trans f3))
              have hsz : Maps.size D5 = cc := hcc.symm
              have hccm := HCC.out.2
              clear f1 f2 f3 f4 hcc
              by_cases hcm : cc ≤ m
              · have HF : Hid (fairB m k l = false) := Lib.hid (fair_false (i := (k + j)) (by have := HN.out; omega) (by omega) (fun h => by have := HCC.out.1.1 h; omega))
                go_wp2_with (at_len; refine wpList_len_want _ rfl _ 55 rfl 3 3 Try.underlying55 _ w.heap.size _ D5 rfl F1.out ?_)
                go_ret
                exact ⟨by rw [HF.out]; rfl, PY.out⟩
              · have hcm2 : m < cc := by omega
                go_wp2_with (at_len; refine wpList_len_want _ rfl _ 55 rfl 3 3 Try.underlying55 _ w.heap.size _ D5 rfl F1.out ?_)
                go_roundw
                case rel => exact ⟨(k + j) + 1, by omega, by go_num, fair_more HW.out (fun _ => HCC.out.1.2 (by omega)), HCE.out, PY.out⟩
                case measure => simp [intOf]; omega
      · obtain ⟨q, rfl⟩ : ∃ q : Nat, p = q := ⟨p.toNat, by omega⟩
        obtain ⟨D, g1, g2, g3, g4⟩ := HSet.out
        have G1 := Lib.hid (g1.kept (row := none) ⟨O1.out.os, O1.out.tape, O1.out.output, O1.out.size, fun k hk _ => O1.out.block k hk (by simp)⟩ (by simp))
        have hkey : keyOf Try.prog 3 (.int .i64 (q : Int)) = some (.int .i64 (q : Int)) := keyOf_int_mk Try.underlying3 (by have := HM2.out; simp [Lit.wf, IntKind.min, IntKind.max, IntKind.signed, IntKind.bits]; omega)
        have hle := occ_le m ((l.take i).drop (i - k)) q
        have hle2 : ((l.take i).drop (i - k)).length ≤ 1000000 := by rw [List.length_drop, List.length_take]; omega
        obtain ⟨d, hd⟩ : ∃ d, d = occ m ((l.take i).drop (i - k)) q := ⟨_, rfl⟩
        have hdb : d ≤ 1000000 := by omega
        have HAt : Hid (D.atKey (.int .i64 q) (.lit (.int .i64 0)) = .lit (.int .i64 (d : Int))) := Lib.hid (by rw [(g4 q (by omega)).2, ← hd])
        have GP := Lib.hid (cnt_put (v := d + 1) (by omega : q < m + 1) (by omega) g2 g3 g4)
        rw [show ((d + 1 : Nat) : Int) = (d : Int) + 1 by simp] at GP
        have HNew : Hid (∀ p, p < m + 1 → setC (occ m ((l.take i).drop (i - k))) q (d + 1) p = occ m ((l.take (i + 1)).drop (i - k)) p) := Lib.hid (fun p _ => by
          rw [HPart.out, HSn.out]
          unfold setC
          by_cases e : p = q
          · rw [if_pos e, e, if_pos HPl.out.symm, hd]
          · rw [if_neg e, if_neg (by rw [← HPl.out]; omega)]; rfl)
        clear g1 g2 g3 g4 hd hle hle2 HSet
        go_wp2_with (first | (at_lookup; refine wpList_lookup_own_int _ rfl _ _ 55 rfl 3 3 .i64 lawInt Try.underlying55 Try.underlying3 (zeroInt _) w.heap.size _ D rfl G1.out _ _ rfl hkey ?_; intro c hat hwc; obtain rfl : c = (d : Int) := (by rw [HAt.out] at hat; simpa using hat.symm); clear hat hwc) | (at_mapUpdate; refine wpList_mapUpdate_own _ rfl _ _ _ 55 rfl 3 3 lawInt Try.underlying55 _ w.heap.size _ D rfl G1.out (by unfold maxLen; omega) _ _ _ rfl rfl hkey _ [] (plainElem_int Try.underlying3 (by simp [Lit.wf, IntKind.min, IntKind.max, IntKind.signed, IntKind.bits] <;> omega)) ?_))
        intro w2 hown2 hgrow2
        have PX := Lib.hid (P1.out.grown hgrow2 (fun t ht => by cases ht; exact .inr (Nat.le_refl _)))
        have HC : Hid (CntIs w2 w.heap.size (occ m ((l.take (i + 1)).drop (i - k))) (m + 1) (2 * i + 1)) := Lib.hid (CntIs.congr ⟨_, hown2, GP.out⟩ HNew.out)
        have hsx : w.heap.size ≤ w2.heap.size := PX.out.size
        clear hown2 hgrow2 GP HNew HAt G1 P1 P O1
        generalize w2 = wx at *
        by_cases hik : i < k
        · have HCE : Hid (CntIs wx w.heap.size (occ m ((l.take (i + 1)).drop (i + 1 - k))) (m + 1) (2 * (i + 1))) := Lib.hid (by
            rw [show i + 1 - k = i - k by omega]
            obtain ⟨D, g1, g⟩ := HC.out
            exact ⟨D, g1.mono (by omega), g⟩)
          have PY := PX
          by_cases hik2 : i + 1 < k
          · go_wp2_with fail
            go_roundw
            case rel => exact ⟨i + 1, by omega, by go_num, fair_more HW.out (fun h => by omega), HCE.out, PY.out⟩
            case measure => simp [intOf]; omega
          · have hki : k ≤ i + 1 := by omega
            obtain ⟨D5, f1, f2, f3, f4⟩ := HCE.out
            have F1 := Lib.hid f1
            obtain ⟨cc, hcc⟩ : ∃ cc, cc = Maps.size D5 := ⟨_, rfl⟩
            have HCC := Lib.hid (size_compl hm (hcc.trans f3))
            have hsz : Maps.size D5 = cc := hcc.symm
            have hccm := HCC.out.2
            clear f1 f2 f3 f4 hcc
            by_cases hcm : cc ≤ m
            · have HF : Hid (fairB m k l = false) := Lib.hid (fair_false (i := i) (by have := HN.out; omega) (by omega) (fun h => by have := HCC.out.1.1 h; omega))
              go_wp2_with (at_len; refine wpList_len_want _ rfl _ 55 rfl 3 3 Try.underlying55 _ w.heap.size _ D5 rfl F1.out ?_)
              go_ret
              exact ⟨by rw [HF.out]; rfl, PY.out⟩
            · have hcm2 : m < cc := by omega
              go_wp2_with (at_len; refine wpList_len_want _ rfl _ 55 rfl 3 3 Try.underlying55 _ w.heap.size _ D5 rfl F1.out ?_)
              go_roundw
              case rel => exact ⟨i + 1, by omega, by go_num, fair_more HW.out (fun _ => HCC.out.1.2 (by omega)), HCE.out, PY.out⟩
              case measure => simp [intOf]; omega
        · obtain ⟨j, rfl⟩ : ∃ j, i = k + j := ⟨i - k, by omega⟩
          have hij : ((k + j : Nat) : Int) - (k : Int) = (j : Int) := by omega
          have d0 := PX.out.keepCell (HCell.out j (by have := HN.out; omega)).1 (by simp)
          have d1 := PX.out.keepCell (HCell.out j (by have := HN.out; omega)).2 (by simp)
          have HT0 := Lib.hid (part_tail (l := l) (i := k + j + 1) (f := j) (by omega) (by have := HN.out; omega))
          have HC0 : Hid (CntIs wx w.heap.size (occ m ((l.take (k + j + 1)).drop j)) (m + 1) (2 * (k + j) + 1)) := Lib.hid (by have := HC.out; rwa [show k + j - k = j by omega] at this)
          have HLn : Hid (((l.take (k + j + 1)).drop j).length ≤ 1000001) := Lib.hid (by rw [List.length_drop, List.length_take]; omega)
          have HEJ : Hid (k + j + 1 - k = j + 1) := Lib.hid (by omega)
          obtain ⟨e2, he2⟩ : ∃ e2, e2 = l.getD j (0, 0) := ⟨_, rfl⟩
          rw [← he2] at d0 d1 HT0
          obtain ⟨b1, b2⟩ := e2
          simp only at d0 d1
          have HS2 := Lib.hid (fun p => occ_cons m ((l.take (k + j + 1)).drop (j + 1)) (b1, b2) p)
          have PL2 := fun w => Lib.hid (place_any b1 b2 m w HM2.out)
          obtain ⟨qb1, qb2⟩ := placeI_bd (b1, b2) m hm4
          obtain ⟨p2, hp2⟩ : ∃ p2, p2 = placeI (b1, b2) m := ⟨_, rfl⟩
          rw [← hp2] at PL2 qb1 qb2
          have HPl2 := Lib.hid hp2
          clear hp2 he2 HC
          go_wp2_with fail
          refine (PL2 _).out.mono ?_; rintro e w5 ⟨rfl, o5⟩
          have HC5 : Hid (CntIs w5 w.heap.size (occ m ((l.take (k + j + 1)).drop j)) (m + 1) (2 * (k + j) + 1)) := Lib.hid (by
            obtain ⟨D, g1, g⟩ := HC0.out
            exact ⟨D, g1.kept (row := none) ⟨o5.os, o5.tape, o5.output, o5.size, fun k hk _ => o5.block k hk (by simp)⟩ (by simp), g⟩)
          have P5 := Lib.hid (PX.out.then0 o5)
          have HSZ5 : Hid (w.heap.size ≤ w5.heap.size) := Lib.hid (Nat.le_trans hsx o5.size)
          clear o5 PL2 d0 d1 HC0
          by_cases hq0 : p2 < 0
          · have HCE : Hid (CntIs w5 w.heap.size (occ m ((l.take (k + j + 1)).drop (k + j + 1 - k))) (m + 1) (2 * (k + j + 1))) := Lib.hid (by
              rw [HEJ.out]
              obtain ⟨D, g1, g⟩ := HC5.out
              refine CntIs.congr (C := occ m ((l.take (k + j + 1)).drop j)) ⟨D, g1.mono (by omega), g⟩ (fun q hq => ?_)
              rw [HT0.out, HS2.out, if_neg (by rw [← HPl2.out]; omega)]; rfl)
            have PY := P5
            clear HC5
            obtain ⟨D5, f1, f2, f3, f4⟩ := HCE.out
            have F1 := Lib.hid f1
            obtain ⟨cc, hcc⟩ : ∃ cc, cc = Maps.size D5 := ⟨_, rfl⟩
            have HCC := Lib.hid (size_compl hm (hcc.trans f3))
            have hsz : Maps.size D5 = cc := hcc.symm
            have hccm := HCC.out.2
            clear f1 f2 f3 f4 hcc
            by_cases hcm : cc ≤ m
            · have HF : Hid (fairB m k l = false) := Lib.hid (fair_false (i := (k + j)) (by have := HN.out; omega) (by omega) (fun h => by have := HCC.out.1.1 h; omega))
              go_wp2_with (at_len; refine wpList_len_want _ rfl _ 55 rfl 3 3 Try.underlying55 _ w.heap.size _ D5 rfl F1.out ?_)
              go_ret
              exact ⟨by rw [HF.out]; rfl, PY.out⟩
            · have hcm2 : m < cc := by omega
              go_wp2_with (at_len; refine wpList_len_want _ rfl _ 55 rfl 3 3 Try.underlying55 _ w.heap.size _ D5 rfl F1.out ?_)
              go_roundw
              case rel => exact ⟨(k + j) + 1, by omega, by go_num, fair_more HW.out (fun _ => HCC.out.1.2 (by omega)), HCE.out, PY.out⟩
              case measure => simp [intOf]; omega
          · obtain ⟨q2, rfl⟩ : ∃ q2 : Nat, p2 = q2 := ⟨p2.toNat, by omega⟩
            obtain ⟨D, g1, g2, g3, g4⟩ := HC5.out
            have G1 := Lib.hid g1
            have hkey2 : keyOf Try.prog 3 (.int .i64 (q2 : Int)) = some (.int .i64 (q2 : Int)) := keyOf_int_mk Try.underlying3 (by have := HM2.out; simp [Lit.wf, IntKind.min, IntKind.max, IntKind.signed, IntKind.bits]; omega)
            have HO : Hid (occ m ((l.take (k + j + 1)).drop j) q2 = occ m ((l.take (k + j + 1)).drop (j + 1)) q2 + 1) := Lib.hid (by rw [HT0.out, HS2.out, if_pos HPl2.out.symm])
            have HOther : Hid (∀ p, p ≠ q2 → occ m ((l.take (k + j + 1)).drop j) p = occ m ((l.take (k + j + 1)).drop (j + 1)) p) := Lib.hid (fun p hp => by rw [HT0.out, HS2.out, if_neg (by rw [← HPl2.out]; omega)]; rfl)
            have hle := occ_le m ((l.take (k + j + 1)).drop j) q2
            have hle2 : occ m ((l.take (k + j + 1)).drop j) q2 ≤ 1000001 := by have := HLn.out; omega
            obtain ⟨d, hd⟩ : ∃ d, d = occ m ((l.take (k + j + 1)).drop (j + 1)) q2 := ⟨_, rfl⟩
            have hdb : d ≤ 1000000 := by have := HO.out; omega
            have HD := Lib.hid hd
            have HAt : Hid (D.atKey (.int .i64 q2) (.lit (.int .i64 0)) = .lit (.int .i64 ((d : Int) + 1))) := Lib.hid (by rw [(g4 q2 (by omega)).2, HO.out, ← hd]; rfl)
            have GP := fun (hd0 : 0 < d) => Lib.hid (cnt_put (v := d) (by omega : q2 < m + 1) hd0 g2 g3 g4)
            have GD := Lib.hid (cnt_del (d := .lit (.int .i64 (d : Int))) (by omega : q2 < m + 1) g2 g3 g4)
            have HAt2 : Hid ((D.put (.int .i64 q2) (.lit (.int .i64 (d : Int)))).atKey (.int .i64 q2) (.lit (.int .i64 0)) = .lit (.int .i64 (d : Int))) := Lib.hid (Maps.atKey_put_same g2.isMap (keyLit' _) _ _)
            have HNew : Hid (∀ p, p < m + 1 → setC (occ m ((l.take (k + j + 1)).drop j)) q2 d p = occ m ((l.take (k + j + 1)).drop (k + j + 1 - k)) p) := Lib.hid (fun p _ => by
              rw [HEJ.out]
              unfold setC
              by_cases e : p = q2
              · rw [if_pos e, e, hd]
              · rw [if_neg e, HOther.out p e])
            clear g1 g2 g3 g4 hd hle hle2 HC5 HO HOther
            by_cases hd0 : d = 0
            · subst hd0
              rw [Int.natCast_zero] at GD HAt2
              go_wp2_with (first | (at_lookup; refine wpList_lookup_own_int _ rfl _ _ 55 rfl 3 3 .i64 lawInt Try.underlying55 Try.underlying3 (zeroInt _) w.heap.size _ D rfl G1.out _ _ rfl hkey2 ?_; intro c hat hwc; obtain rfl : c = 1 := (by rw [HAt.out] at hat; simpa using hat.symm); clear hat hwc) | (at_mapUpdate; refine wpList_mapUpdate_own _ rfl _ _ _ 55 rfl 3 3 lawInt Try.underlying55 _ w.heap.size _ D rfl G1.out (by unfold maxLen; omega) _ _ _ rfl rfl hkey2 _ [] (plainElem_int Try.underlying3 (by simp [Lit.wf, IntKind.min, IntKind.max, IntKind.signed, IntKind.bits])) ?_))
              intro w6 hown6 hgrow6
              have F6 : Hid (w6.ownsMap Try.prog 3 (plainElem Try.prog 3) w.heap.size (2 * (k + j) + 1 + 1) (D.put (.int .i64 (q2 : Int)) (.lit (.int .i64 0)))) := Lib.hid hown6
              have P6 := Lib.hid (P5.out.grown hgrow6 (fun t ht => by cases ht; exact .inr (Nat.le_refl _)))
              clear hown6 hgrow6
              go_wp2_with (first | (at_lookup; refine wpList_lookup_own_int _ rfl _ _ 55 rfl 3 3 .i64 lawInt Try.underlying55 Try.underlying3 (zeroInt _) w.heap.size _ _ rfl F6.out _ _ rfl hkey2 ?_; intro c hat hwc; obtain rfl : c = 0 := (by rw [HAt2.out] at hat; simpa using hat.symm); clear hat hwc) | (at_delete; refine wpList_delete_own _ rfl _ _ 55 3 rfl 3 lawInt Try.underlying55 _ w.heap.size _ _ rfl F6.out _ _ rfl hkey2 ?_))
              intro w7 hown7 hturn7
              have PY := Lib.hid (P6.out.grown hturn7.grown (fun t ht => by cases ht; exact .inr (Nat.le_refl _)))
              have HCE : Hid (CntIs w7 w.heap.size (occ m ((l.take (k + j + 1)).drop (k + j + 1 - k))) (m + 1) (2 * (k + j + 1))) := Lib.hid (CntIs.congr ⟨_, hown7.mono (by omega), GD.out⟩ HNew.out)
              clear hown7 hturn7
              obtain ⟨D5, f1, f2, f3, f4⟩ := HCE.out
              have F1 := Lib.hid f1
              obtain ⟨cc, hcc⟩ : ∃ cc, cc = Maps.size D5 := ⟨_, rfl⟩
              have HCC := Lib.hid (size_compl hm (hcc.trans f3))
              have hsz : Maps.size D5 = cc := hcc.symm
              have hccm := HCC.out.2
              clear f1 f2 f3 f4 hcc
              by_cases hcm : cc ≤ m
              · have HF : Hid (fairB m k l = false) := Lib.hid (fair_false (i := (k + j)) (by have := HN.out; omega) (by omega) (fun h => by have := HCC.out.1.1 h; omega))
                go_wp2_with (at_len; refine wpList_len_want _ rfl _ 55 rfl 3 3 Try.underlying55 _ w.heap.size _ D5 rfl F1.out ?_)
                go_ret
                exact ⟨by rw [HF.out]; rfl, PY.out⟩
              · have hcm2 : m < cc := by omega
                go_wp2_with (at_len; refine wpList_len_want _ rfl _ 55 rfl 3 3 Try.underlying55 _ w.heap.size _ D5 rfl F1.out ?_)
                go_roundw
                case rel => exact ⟨(k + j) + 1, by omega, by go_num, fair_more HW.out (fun _ => HCC.out.1.2 (by omega)), HCE.out, PY.out⟩
                case measure => simp [intOf]; omega
            · have hdi : ((d : Int) == 0) = false := by simp; omega
              have hdi2 : decide ((d : Int) = 0) = false := by simp; omega
              have hdp : 0 < d := by omega
              have hda : (d : Int) + 1 - 1 = d := by omega
              go_wp2_with (first | (at_lookup; refine wpList_lookup_own_int _ rfl _ _ 55 rfl 3 3 .i64 lawInt Try.underlying55 Try.underlying3 (zeroInt _) w.heap.size _ D rfl G1.out _ _ rfl hkey2 ?_; intro c hat hwc; obtain rfl : c = (d : Int) + 1 := (by rw [HAt.out] at hat; simpa using hat.symm); clear hat hwc) | (at_mapUpdate; refine wpList_mapUpdate_own _ rfl _ _ _ 55 rfl 3 3 lawInt Try.underlying55 _ w.heap.size _ D rfl G1.out (by unfold maxLen; omega) _ _ _ rfl rfl hkey2 _ [] (plainElem_int Try.underlying3 (by simp [Lit.wf, IntKind.min, IntKind.max, IntKind.signed, IntKind.bits] <;> omega)) ?_))
              intro w6 hown6 hgrow6
              have F6 : Hid (w6.ownsMap Try.prog 3 (plainElem Try.prog 3) w.heap.size (2 * (k + j) + 1 + 1) (D.put (.int .i64 (q2 : Int)) (.lit (.int .i64 (d : Int))))) := Lib.hid hown6
              have PY := Lib.hid (P5.out.grown hgrow6 (fun t ht => by cases ht; exact .inr (Nat.le_refl _)))
              clear hown6 hgrow6
              go_wp2_with (at_lookup; refine wpList_lookup_own_int _ rfl _ _ 55 rfl 3 3 .i64 lawInt Try.underlying55 Try.underlying3 (zeroInt _) w.heap.size _ _ rfl F6.out _ _ rfl hkey2 ?_)
              intro c hat hwc
              obtain rfl : c = (d : Int) := (by rw [HAt2.out] at hat; simpa using hat.symm)
              clear hat hwc
              have HCE : Hid (CntIs w6 w.heap.size (occ m ((l.take (k + j + 1)).drop (k + j + 1 - k))) (m + 1) (2 * (k + j + 1))) := Lib.hid (CntIs.congr ⟨_, F6.out.mono (by omega), (GP hdp).out⟩ HNew.out)
              obtain ⟨D5, f1, f2, f3, f4⟩ := HCE.out
              have F1 := Lib.hid f1
              obtain ⟨cc, hcc⟩ : ∃ cc, cc = Maps.size D5 := ⟨_, rfl⟩
              have HCC := Lib.hid (size_compl hm (hcc.trans f3))
              have hsz : Maps.size D5 = cc := hcc.symm
              have hccm := HCC.out.2
              clear f1 f2 f3 f4 hcc
              by_cases hcm : cc ≤ m
              · have HF : Hid (fairB m k l = false) := Lib.hid (fair_false (i := (k + j)) (by have := HN.out; omega) (by omega) (fun h => by have := HCC.out.1.1 h; omega))
                go_wp2_with (at_len; refine wpList_len_want _ rfl _ 55 rfl 3 3 Try.underlying55 _ w.heap.size _ D5 rfl F1.out ?_)
                go_ret
                exact ⟨by rw [HF.out]; rfl, PY.out⟩
              · have hcm2 : m < cc := by omega
                go_wp2_with (at_len; refine wpList_len_want _ rfl _ 55 rfl 3 3 Try.underlying55 _ w.heap.size _ D5 rfl F1.out ?_)
                go_roundw
                case rel => exact ⟨(k + j) + 1, by omega, by go_num, fair_more HW.out (fun _ => HCC.out.1.2 (by omega)), HCE.out, PY.out⟩
                case measure => simp [intOf]; omega
    · obtain rfl : i = n := by omega
      have HT : Hid (fairB m k l = true) := Lib.hid (fair_true (fun j hj => HW.out j (by have := HN.out; omega)))
      go_wp2_with fail
      go_ret
      exact ⟨by rw [HT.out]; rfl, P.out⟩

theorem fair_any (w : World) (v : Value) (l : List E) (m k : Int) (h : En w v l) (hn : l.length ≤ 1000000) (hm : m ≤ 9223372036854775807) (hk : k ≤ 9223372036854775807) :
    Calls Try.prog 24 #[v, .int .i64 m, .int .i64 k] w fun e w' => e = .returned (.bool (fairI m k l)) ∧ Only [] w w' := by
  unfold fairI
  by_cases h1 : m < 1 ∨ k < 1
  · rw [show (decide (1 ≤ m) && decide (1 ≤ k) && fairB m.toNat k.toNat l) = false by rcases h1 with h1 | h1 <;> simp <;> omega]
    exact (fair_none w v m k h1).mono fun e w' h => ⟨h.1, by rw [← h.2]; exact Only.refl _ _⟩
  · obtain ⟨m, rfl⟩ := Int.eq_ofNat_of_zero_le (show 0 ≤ m by omega)
    obtain ⟨k, rfl⟩ := Int.eq_ofNat_of_zero_le (show 0 ≤ k by omega)
    rw [show (decide ((1 : Int) ≤ m) && decide ((1 : Int) ≤ k) && fairB (m : Int).toNat (k : Int).toNat l) = fairB m k l by
      rw [decide_eq_true (by omega), decide_eq_true (by omega)]; rfl]
    obtain ⟨ao, cap, rfl, h2, _, h4⟩ := h
    exact fair_some w ao cap _ l h2 rfl hn m (by omega) hm k (by omega) hk
end Go.Proofs.Ytfhmphbfngdkeaa
