/- A line of an event read, walked. No condition beside the library's variables. -/
import Derived.Test.YtncnepmgmphanaaGreatDoorMg26
import Derived.Deep.RegionHeld3
set_option linter.unusedVariables false
set_option linter.unusedSimpArgs false
set_option linter.unusedSectionVars false
namespace Go.Proofs.YtncnepmgmphanaaGreatDoor
open Go.RowKit
def ReadPost (s : ByteArray) (w : World) (e : Ending) (w' : World) : Prop :=
  Only [] w w' ∧ ∃ (v : Evt) (ok : Bool), e = .returned (.tuple #[evV v, .bool ok]) ∧ (ok = true → readB s = some v) ∧ (ok = false → readB s = none)
theorem cell_set_blk {w : World} {b r i j : Nat} {u : Value} (h : b ≠ r) : (w.setCell ⟨r, j, none⟩ u).cell? ⟨b, i, none⟩ = w.cell? ⟨b, i, none⟩ :=
  World.cell?_of_block (blk_setCell_ne h u)
set_option maxRecDepth 100000 in
theorem idx_u (f : EForm) (k : Nat) (hk : k < 4) : ∀ w, (Instr.index 95 (.agg #[.bool true, .bool f.t, .bool f.o, .bool f.l]) (.int .i64 k)).run Tryz.prog w = .ok (.bool (usAt f k)) w := by
  rcases (show k = 0 ∨ k = 1 ∨ k = 2 ∨ k = 3 from by omega) with rfl | rfl | rfl | rfl <;> exact fun _ => by kernel_rfl
theorem readPost_no {s : ByteArray} {w w' : World} (o : Only [] w w') (h : readB s = none) (v : Evt) : ReadPost s w (.returned (.tuple #[evV v, .bool false])) w' :=
  ⟨o, v, false, rfl, (by intro h; cases h), fun _ => h⟩
def WordsAt (w : World) (b : Nat) (ws : List ByteArray) : Prop := w.heap[b]? = some (.cells (ws.map Value.string).toArray 9 (0, 0))
theorem WordsAt.cell {w : World} {b : Nat} {ws : List ByteArray} (h : WordsAt w b ws) {k : Nat} (hk : k < ws.length) : w.cell? ⟨b, k, none⟩ = some (.string (ws.getD k ByteArray.empty)) := by
  rw [cell_blk h]
  simp [List.getElem?_eq_getElem hk, List.getD_eq_getElem?_getD]
set_option maxRecDepth 100000 in
set_option maxHeartbeats 8000000 in
theorem read_any (w : World) (hL : LibAt w) (s : ByteArray) (hs : s.size < 4294967281) :
    Calls Tryz.prog 34 #[.string s] w (ReadPost s w) := by
  obtain ⟨ws, hws⟩ : ∃ ws, ws = wordsOf s := ⟨_, rfl⟩
  have hpos : 0 < ws.length := by rw [hws]; exact wordsOf_pos s
  have RD : Hid (readB s = match formOf (ws.headD ByteArray.empty) 19 with
    | none => none
    | some k => match fillTo (formAt k) ws.tail 4 with
      | none => none
      | some (vs, rest) => if rest = [] ∧ validB (evOf k vs) = true then some (evOf k vs) else none) := Lib.hid (by rw [hws]; rfl)
  have WS : Hid (∀ r ∈ ws, r.size ≤ 281474976710656) := Lib.hid (fun r hr => by rw [hws] at hr; have := wordsOf_size hr; omega)
  obtain ⟨rb, hrb⟩ : ∃ rb, rb = w.heap.size := ⟨_, rfl⟩
  have HRB := Lib.hid hrb
  obtain ⟨W0, hW0⟩ : ∃ W0, W0 = w.alloc (.cells #[.int .i64 0, .int .i64 0, .int .i64 0, .int .i64 0, .int .i64 0] 27) := ⟨_, rfl⟩
  have HW0 := Lib.hid hW0
  have O0 : Hid (Only [] w W0) := Lib.hid (by rw [hW0]; exact (Only.refl _ _).alloc _)
  have R0 : Hid (W0.heap[rb]? = some (.cells #[.int .i64 0, .int .i64 0, .int .i64 0, .int .i64 0, .int .i64 0] 27 (0, 0))) := Lib.hid (by rw [hW0, hrb]; exact blk_alloc_new w _)
  have SP := split_any W0 (hL.keep0 O0.out) s blank hs (by decide)
  have ew : Lib.splitB blank 0 (Lib.countB s blank) s = ws := hws.symm
  rw [ew] at SP
  have SPH := Lib.hid SP
  have HL := Lib.hid hL
  obtain ⟨n, hn⟩ : ∃ n, n = ws.length := ⟨_, rfl⟩
  have HN := Lib.hid hn
  rw [← hn] at SPH hpos
  clear hws hrb hW0 SP ew hL hn hs
  go_enter Tryz.func34, Tryz.ntmps34
  go_wp2_with fail
  rw [← HRB.out, ← HW0.out]
  refine SPH.out.mono ?_; rintro e w1 ⟨wb, rfl, hwb, hwl, o1⟩
  have WB1 : Hid (WordsAt w1 wb ws) := Lib.hid hwb
  have O1 := Lib.hid (O0.out.then0 o1)
  have R1 := Lib.hid (o1.keep R0.out (by simp))
  clear hwb o1 SPH
  go_wp2_with fail
  refine (forms_at _).mono ?_; rintro e w2 ⟨b, rfl, hb, hbl, o2⟩
  have O2 := Lib.hid (O1.out.then0 o2)
  have R2 := Lib.hid (o2.keep R1.out (by simp))
  have WB2 : Hid (WordsAt w2 wb ws) := Lib.hid (o2.keep WB1.out (by simp))
  have FB2 := Lib.hid hb
  clear hb o2 hbl
  go_wp2_with fail
  obtain ⟨w0, hw0⟩ : ∃ w0, w0 = ws.getD 0 ByteArray.empty := ⟨_, rfl⟩
  have H0 := Lib.hid hw0
  have RD0 : Hid (ws.headD ByteArray.empty = w0) := Lib.hid (by rw [hw0]; cases ws <;> rfl)
  clear hw0
  go_loopw [5, 6, 18] (fun _ _ r wr => ∃ k : Nat, r = .int .i64 k ∧ k ≤ 19 ∧ (∀ j, j < k → wordB j ≠ w0) ∧ Only [] w2 wr) (fun _ _ r _ => 19 - (intOf r).toNat)
  case atStart => exact ⟨0, rfl, by omega, fun j hj => by omega, Only.refl _ _⟩
  case round =>
    obtain ⟨k, rfl, hk, hne, ho⟩ := hrel
    obtain ⟨w3, hw3⟩ : ∃ w3, w3 = wr := ⟨_, rfl⟩
    subst hw3
    have NE := Lib.hid hne
    have O3 := Lib.hid ho
    clear hne ho
    by_cases hk19 : k < 19
    · have hk1 : (0 : Int) ≤ (k : Int) := by omega
      have hk2 : (k : Int) < 19 := by omega
      have hn1 : (0 : Int) < (n : Int) := by omega
      obtain ⟨d0, d1, d2, d3⟩ := formsL_cells (O3.out.keep FB2.out (by simp)) hk19
      have WB3 : Hid (WordsAt w3 wb ws) := Lib.hid (O3.out.keep WB2.out (by simp))
      have c0 := WB3.out.cell (k := 0) (by rw [← HN.out]; exact hpos)
      rw [← H0.out] at c0
      have hwl3 := lt_of_cell c0
      have hbl3 := lt_of_cell d0
      obtain ⟨wk, hwk⟩ : ∃ wk : ByteArray, wk = ⟨(formAt k).word.toArray⟩ := ⟨_, rfl⟩
      rw [← hwk] at d0
      have HK := Lib.hid hwk
      clear hwk
      go_wp2_with fail
      obtain ⟨W4, hW4⟩ : ∃ W4, W4 = w3.alloc (.cells #[.string wk, .bool (formAt k).t, .bool (formAt k).o, .bool (formAt k).l] 97) := ⟨_, rfl⟩
      rw [← hW4]
      obtain ⟨fb, hfb⟩ : ∃ fb, fb = w3.heap.size := ⟨_, rfl⟩
      rw [← hfb]
      have FB4 := Lib.hid (show W4.heap[fb]? = some (.cells #[.string wk, .bool (formAt k).t, .bool (formAt k).o, .bool (formAt k).l] 97 (0, 0)) from by rw [hW4, hfb]; exact blk_alloc_new _ _)
      have O34 := Lib.hid (show Only [] w3 W4 from by rw [hW4]; exact (Only.refl _ _).alloc _)
      have g0 := cell_blk FB4.out 0
      simp at g0
      have c4 := O34.out.keepCell c0 (by simp)
      clear hW4 hfb d0 d1 d2 d3 c0 hwl3 hbl3
      by_cases hE : wk = w0
      · have hEq : (wk.toList == w0.toList) = true := by rw [hE]; simp
        go_quiet (fail)
        have FO : Hid (formOf w0 19 = some k) := Lib.hid (formOf_some hk19 (by rw [← hE]; exact HK.out.symm) 19 (by omega) (by omega) (fun j _ h2 => NE.out j h2))
        clear hEq hE g0 c4
        obtain ⟨w5, hw5⟩ : ∃ w5, w5 = W4.drewN nq := ⟨_, rfl⟩
        rw [← hw5]
        have O5 := Lib.hid (show Only [] w3 w5 from by rw [hw5]; exact O34.out.drewN _)
        have FB5 := Lib.hid (show w5.heap[fb]? = some (.cells #[.string wk, .bool (formAt k).t, .bool (formAt k).o, .bool (formAt k).l] 97 (0, 0)) from by rw [hw5]; exact FB4.out)
        clear hw5
        go_upto_region 7 with fail
        obtain ⟨vb, hvb⟩ : ∃ vb, vb = w5.heap.size := ⟨_, rfl⟩
        rw [← hvb]
        obtain ⟨w6, hw6⟩ : ∃ w6, w6 = w5.alloc (.cells #[.int .i64 0, .int .i64 0, .int .i64 0, .int .i64 0] 99) := ⟨_, rfl⟩
        rw [← hw6]
        have V6 := Lib.hid (show w6.heap[vb]? = some (.cells #[.int .i64 0, .int .i64 0, .int .i64 0, .int .i64 0] 99 (0, 0)) from by rw [hw6, hvb]; exact blk_alloc_new _ _)
        have O6 := Lib.hid (show Only [] w3 w6 from by rw [hw6]; exact O5.out.alloc _)
        have FB6 := Lib.hid (show w6.heap[fb]? = some (.cells #[.string wk, .bool (formAt k).t, .bool (formAt k).o, .bool (formAt k).l] 97 (0, 0)) from by rw [hw6, blk_alloc_old (lt_of_blk FB5.out)]; exact FB5.out)
        have NV : Hid (w5.heap.size ≤ vb) := Lib.hid (Nat.le_of_eq hvb.symm)
        clear hw6 hvb
        go_cut [8] (fun s8 wx => ∃ m o, s8 = .slice (some ⟨wb, o, none⟩) m m ∧ m + 1 = n ∧ (0 < m → o = 1) ∧ wx = w6)
        case first =>
          by_cases h1 : n = 1
          · subst h1
            go_wp2_with fail
            go_meet
            exact ⟨0, 0, rfl, rfl, by omega, rfl⟩
          · have h2 : (1 : Int) < (n : Int) := by omega
            have h3 : ¬ n = 1 := h1
            go_wp2_with fail
            go_meet
            exact ⟨n - 1, 1, rfl, by omega, fun _ => rfl, rfl⟩
        case rest =>
          obtain ⟨m0, o0, rfl, hm0, ho0, rfl⟩ := hcut
          have M0 := Lib.hid hm0
          have HO0 := Lib.hid ho0
          have g0 := cell_blk FB6.out 0
          have g1 := cell_blk FB6.out 1
          have g2 := cell_blk FB6.out 2
          have g3 := cell_blk FB6.out 3
          simp at g0 g1 g2 g3
          have UF0 := fun w' => used_any w' (formAt k)
          unfold fmV at UF0
          rw [← HK.out] at UF0
          have UF := Lib.hid UF0
          clear hm0 ho0 UF0
          obtain ⟨w7, hw7⟩ : ∃ w7, w7 = wc := ⟨_, rfl⟩
          subst hw7
          go_wp2_with fail
          refine (UF.out _).mono ?_; rintro e w8 ⟨rfl, o8⟩
          have O8 := Lib.hid (O6.out.then0 o8)
          have V8 := Lib.hid (show w8.heap[vb]? = some (.cells (arr4 []) 99 (0, 0)) from o8.keep V6.out (by simp))
          clear o8 g0 g1 g2 g3
          have OW8 : Hid (Only [] w w8) := Lib.hid ((O2.out.then0 O3.out).then0 O8.out)
          have WB8 : Hid (WordsAt w8 wb ws) := Lib.hid ((O3.out.then0 O8.out).keep WB2.out (by simp))
          have R8 := Lib.hid ((O3.out.then0 O8.out).keep R2.out (by simp))
          have NVR : Hid (rb ≠ vb ∧ wb ≠ vb ∧ w.heap.size ≤ vb) := Lib.hid (by
            have h1 := lt_of_blk (O5.out.keep (O3.out.keep R2.out (by simp)) (by simp))
            have h2 := lt_of_blk (O5.out.keep (O3.out.keep WB2.out (by simp)) (by simp))
            have h3 := NV.out
            have h4 := O5.out.size
            have h5 := O3.out.size
            have h6 := O2.out.size
            exact ⟨by omega, by omega, by omega⟩)
          have VLT : Hid (vb < w8.heap.size) := Lib.hid (lt_of_blk V8.out)
          have L8 := Lib.hid (HL.out.keep0 OW8.out)
          go_wp2_with fail
          go_loopw [8, 9, 10, 11, 12, 33] (fun s8 _ _ _ _ r wr => ∃ (i m o : Nat) (vs : List Int) (rest : List ByteArray), r = .int .i64 i ∧ i ≤ 4 ∧ fillTo (formAt k) ws.tail i = some (vs, rest) ∧ m = rest.length ∧ s8 = .slice (some ⟨wb, o, none⟩) m m ∧ (0 < m → o + m = n) ∧ wr.heap[vb]? = some (.cells (arr4 vs) 99 (0, 0)) ∧ Only [vb] w8 wr) (fun _ _ _ _ _ r _ => 4 - (intOf r).toNat)
          case atStart => exact ⟨0, m0, o0, [], ws.tail, rfl, by omega, rfl, by rw [List.length_tail, ← HN.out]; have := M0.out; omega, rfl, fun h => by have := HO0.out h; have := M0.out; omega, V8.out, Only.refl _ _⟩
          case round =>
            obtain ⟨i, m, o, vs, rest, rfl, hi4, hfl, hm, rfl, hom, hV, ho⟩ := hrel
            obtain ⟨w9, hw9⟩ : ∃ w9, w9 = wr := ⟨_, rfl⟩
            subst hw9
            have FL := Lib.hid hfl
            have HM := Lib.hid hm
            have HOM := Lib.hid hom
            have V9 := Lib.hid hV
            have O9 := Lib.hid ho
            clear hfl hm hom hV ho
            by_cases hi : i < 4
            · have hix := idx_u (formAt k) i hi
              obtain ⟨u, hu⟩ : ∃ u, u = usAt (formAt k) i := ⟨_, rfl⟩
              rw [← hu] at hix
              have HU := Lib.hid hu
              clear hu
              cases u with
              | false =>
                go_wp2_with fail
                go_roundw
                case rel => exact ⟨i + 1, m, o, vs ++ [0], rest, by go_num, by omega, by unfold fillTo; rw [FL.out]; simp only; rw [← HU.out]; rfl, HM.out, rfl, HOM.out, by rw [arr4_zero]; exact V9.out, O9.out⟩
                case measure => simp [intOf]; omega
              | true =>
                have OW9 : Hid (Only [] w w9) := Lib.hid (OW8.out.thenN O9.out NVR.out.2.2)
                have L9 := Lib.hid (HL.out.keep0 OW9.out)
                cases rest with
                | nil =>
                  obtain rfl : m = 0 := HM.out
                  --<F1
                  have hR := O9.out.keep R8.out (by simpa using NVR.out.1)
                  have r0 := cell_blk hR 0
                  have r1 := cell_blk hR 1
                  have r2 := cell_blk hR 2
                  have r3 := cell_blk hR 3
                  have r4 := cell_blk hR 4
                  simp at r0 r1 r2 r3 r4
                  have f0 := free_blk hR 0
                  have f1 := free_blk hR 1
                  have f2 := free_blk hR 2
                  have f3 := free_blk hR 3
                  have f4 := free_blk hR 4
                  have hlr := lt_of_blk hR
                  have OZ : Hid (Only [] w _) := Lib.hid (OW9.out)
                  have RZ : Hid (readB s = none) := Lib.hid (by rw [RD.out, RD0.out, FO.out]; simp only; rw [fillTo_le (i + 1) 4 (by omega) (by unfold fillTo; rw [FL.out]; simp only; rw [← HU.out]; rfl)])
                  clear hR
                  go_wp2_with fail
                  refine bodyPost_ret (v := .tuple #[.agg #[.int .i64 0, .int .i64 0, .int .i64 0, .int .i64 0, .int .i64 0], .bool false]) (by simp [results, Tryz.results34, go_sem, r0, r1, r2, r3, r4]) rfl ?_
                  exact readPost_no (((((OZ.out.setCell (.inr (Nat.le_of_eq HRB.out.symm)) _).setCell (.inr (Nat.le_of_eq HRB.out.symm)) _).setCell (.inr (Nat.le_of_eq HRB.out.symm)) _).setCell (.inr (Nat.le_of_eq HRB.out.symm)) _).setCell (.inr (Nat.le_of_eq HRB.out.symm)) _) RZ.out Evt.zero
                  --F1>
                | cons r rest' =>
                  have hm1 : m = rest'.length + 1 := HM.out
                  have hmp : (0 : Int) < (m : Int) := by omega
                  have hmN : 0 < m := by omega
                  have hm0 : ((m : Int) == 0) = false := by simp; omega
                  have hoe := HOM.out (by omega)
                  obtain ⟨hwd, hmem⟩ := rest_head FL.out (o := o) (by rw [← HN.out, ← hm1]; exact hoe)
                  have WB9 : Hid (WordsAt w9 wb ws) := Lib.hid (O9.out.keep WB8.out (by simpa using NVR.out.2.1))
                  have cw := WB9.out.cell (k := o) (by rw [← HN.out]; omega)
                  rw [hwd] at cw
                  have AP := Lib.hid (atoi_any w9 L9.out r (WS.out r hmem))
                  have HME := Lib.hid hm1
                  clear hwd hmem hoe hm1
                  go_wp2_with fail
                  refine AP.out.mono ?_; rintro e w10 ⟨o10, ⟨nv, hat, rfl⟩ | ⟨hat, nv, te, pp, rfl⟩⟩
                  · have O10 := Lib.hid o10
                    have HAT := Lib.hid hat
                    have O910 : Hid (Only [vb] w8 w10) := Lib.hid (O9.out.then0 o10)
                    have hnb := atoiN_bd hat
                    have IT := itoa_any w10 (L9.out.keep0 o10) nv hnb.1 hnb.2
                    obtain ⟨IB, hIB⟩ : ∃ IB : ByteArray, IB = ⟨(Lib.itoa nv).toArray⟩ := ⟨_, rfl⟩
                    rw [← hIB] at IT
                    have HIB := Lib.hid hIB
                    have ITW := Lib.hid (fun w' (o' : Only [] w10 w') => (itoa_any w' ((L9.out.keep0 o10).keep0 o') nv hnb.1 hnb.2))
                    rw [← hIB] at ITW
                    have CW := Lib.hid (fun w' (o' : Only [] w10 w') => o'.keepCell (o10.keepCell cw (by simp)) (by simp))
                    clear o10 hat hIB IT cw AP
                    go_upto_region 15 with fail
                    go_cut [59] (fun s59 wx => s59 = .bool (!(IB.toList == r.toList)) ∧ Only [] w10 wx)
                    case first =>
                      go_region_held3 (fun w' => w'.cell? ⟨wb, o, none⟩ = some (.string r))
                        (with_reducible refine CW.out _ ?_; (repeat (with_reducible refine Only.drew ?_)); (first | with_reducible exact Only.refl _ _ | with_reducible assumption))
                        ((first
                          | (go_at_call 44
                             refine (ITW.out _ (by (repeat (with_reducible refine Only.drew ?_)); (first | with_reducible exact Only.refl _ _ | with_reducible assumption))).mono ?_
                             rintro e w11 ⟨rfl, o11⟩
                             have QA : Only [] w10 w11 := Only.then0 (by (repeat (with_reducible refine Only.drew ?_)); (first | with_reducible exact Only.refl _ _ | with_reducible assumption)) o11
                             clear o11)))
                      all_goals
                        go_wp2_with fail
                        go_meet
                        exact ⟨rfl, by (repeat (with_reducible refine Only.drew ?_)); (first | with_reducible exact Only.refl _ _ | with_reducible assumption)⟩
                    case rest =>
                      obtain ⟨rfl, ho⟩ := hcut
                      obtain ⟨w11, hw11⟩ : ∃ w11, w11 = wc := ⟨_, rfl⟩
                      subst hw11
                      have O11 := Lib.hid ho
                      have O911 : Hid (Only [vb] w8 w11) := Lib.hid (O910.out.then0 ho)
                      clear ho
                      cases hcmp : (IB.toList == r.toList) with
                      | false =>
                        have HNE : Hid (¬ (⟨(Lib.itoa nv).toArray⟩ : ByteArray) = r) := Lib.hid (by
                          rw [← HIB.out]
                          intro e
                          rw [e] at hcmp
                          simp at hcmp)
                        have hcmp2 : (IB.toList == r.toList) = false := hcmp
                        --<F3
                        have hR := O911.out.keep R8.out (by simpa using NVR.out.1)
                        have r0 := cell_blk hR 0
                        have r1 := cell_blk hR 1
                        have r2 := cell_blk hR 2
                        have r3 := cell_blk hR 3
                        have r4 := cell_blk hR 4
                        simp at r0 r1 r2 r3 r4
                        have f0 := free_blk hR 0
                        have f1 := free_blk hR 1
                        have f2 := free_blk hR 2
                        have f3 := free_blk hR 3
                        have f4 := free_blk hR 4
                        have hlr := lt_of_blk hR
                        have OZ : Hid (Only [] w _) := Lib.hid ((OW9.out.then0 O10.out).then0 O11.out)
                        have RZ : Hid (readB s = none) := Lib.hid (by rw [RD.out, RD0.out, FO.out]; simp only; rw [fillTo_le (i + 1) 4 (by omega) (by unfold fillTo; rw [FL.out]; simp only; rw [← HU.out]; simp only [if_true, HAT.out]; rw [if_neg HNE.out])])
                        clear hR
                        go_wp2_with fail
                        refine bodyPost_ret (v := .tuple #[.agg #[.int .i64 0, .int .i64 0, .int .i64 0, .int .i64 0, .int .i64 0], .bool false]) (by simp [results, Tryz.results34, go_sem, r0, r1, r2, r3, r4]) rfl ?_
                        exact readPost_no (((((OZ.out.setCell (.inr (Nat.le_of_eq HRB.out.symm)) _).setCell (.inr (Nat.le_of_eq HRB.out.symm)) _).setCell (.inr (Nat.le_of_eq HRB.out.symm)) _).setCell (.inr (Nat.le_of_eq HRB.out.symm)) _).setCell (.inr (Nat.le_of_eq HRB.out.symm)) _) RZ.out Evt.zero
                        --F3>
                      | true =>
                        have HNE : Hid ((⟨(Lib.itoa nv).toArray⟩ : ByteArray) = r) := Lib.hid (by
                          rw [← HIB.out]
                          exact Go.WideShapes.bytes_inj (by rw [← Lib.toList_data, ← Lib.toList_data]; exact beq_iff_eq.1 hcmp))
                        have hcmp2 : (IB.toList == r.toList) = true := hcmp
                        have hvl := (fillTo_len i vs _ FL.out).1
                        have HVL := Lib.hid hvl
                        have hvc := cell_blk (O11.out.keep (O10.out.keep V9.out (by simp)) (by simp)) i
                        rw [arr4_at vs i hi] at hvc
                        have hvf := free_blk (O11.out.keep (O10.out.keep V9.out (by simp)) (by simp)) i
                        have hvlt := lt_of_cell hvc
                        have hi1 : (0 : Int) ≤ (i : Int) := by omega
                        have hi2 : (i : Int) < 4 := by omega
                        have V12 : Hid (∀ w' x, w' = (w11.setCell ⟨vb, i, none⟩ x) → x = .int .i64 nv → w'.heap[vb]? = some (.cells (arr4 (vs ++ [nv])) 99 (0, 0))) := Lib.hid (by
                          rintro w' x rfl rfl
                          rw [blk_setCell (O11.out.keep (O10.out.keep V9.out (by simp)) (by simp)), show (arr4 vs).setIfInBounds i (.int .i64 nv) = arr4 (vs ++ [nv]) from by rw [← HVL.out]; exact arr4_set vs nv (by rw [HVL.out]; exact hi)])
                        have FL2 : Hid (fillTo (formAt k) ws.tail (i + 1) = some (vs ++ [nv], rest')) := Lib.hid (by
                          unfold fillTo; rw [FL.out]; simp only; rw [← HU.out]; simp only [if_true, HAT.out]; rw [if_pos HNE.out])
                        clear hcmp hvl
                        by_cases hm2 : m = 1
                        · subst hm2
                          have hrl : rest'.length = 0 := by have := HME.out; omega
                          have HRL := Lib.hid hrl
                          clear hrl
                          go_wp2_with fail
                          go_region
                          all_goals
                            go_wp2_with fail
                            go_roundw
                            case rel => exact ⟨i + 1, 0, o, vs ++ [nv], rest', by go_num, by omega, FL2.out, HRL.out.symm, rfl, fun h => by omega, V12.out (w11.setCell ⟨vb, i, none⟩ (.int .i64 nv)) _ rfl rfl, (O911.out.setCell (.inl (by simp)) _).drew⟩
                            case measure => simp [intOf]; omega
                        · have hm3 : (1 : Int) < (m : Int) := by omega
                          go_wp2_with fail
                          go_region
                          all_goals
                            go_wp2_with fail
                            go_roundw
                            case rel => exact ⟨i + 1, m - 1, o + 1, vs ++ [nv], rest', by go_num, by omega, FL2.out, by have := HME.out; omega, rfl, fun h => by have := HOM.out (by omega); omega, V12.out (w11.setCell ⟨vb, i, none⟩ (.int .i64 nv)) _ rfl rfl, (O911.out.setCell (.inl (by simp)) _).drew⟩
                            case measure => simp [intOf]; omega
                  · have O10 := Lib.hid o10
                    have HAT := Lib.hid hat
                    have O910 : Hid (Only [vb] w8 w10) := Lib.hid (O9.out.then0 o10)
                    clear o10 hat cw AP
                    go_upto_region 15 with fail
                    go_quiet (fail)
                    obtain ⟨w12, hw12⟩ : ∃ w12, w12 = w10.drewN nq := ⟨_, rfl⟩
                    rw [← hw12]
                    have O12 := Lib.hid (show Only [] w10 w12 from by rw [hw12]; exact (Only.refl _ _).drewN _)
                    clear hw12
                    --<F2
                    have hR := O12.out.keep (O910.out.keep R8.out (by simpa using NVR.out.1)) (by simp)
                    have r0 := cell_blk hR 0
                    have r1 := cell_blk hR 1
                    have r2 := cell_blk hR 2
                    have r3 := cell_blk hR 3
                    have r4 := cell_blk hR 4
                    simp at r0 r1 r2 r3 r4
                    have f0 := free_blk hR 0
                    have f1 := free_blk hR 1
                    have f2 := free_blk hR 2
                    have f3 := free_blk hR 3
                    have f4 := free_blk hR 4
                    have hlr := lt_of_blk hR
                    have OZ : Hid (Only [] w _) := Lib.hid ((OW9.out.then0 O10.out).then0 O12.out)
                    have RZ : Hid (readB s = none) := Lib.hid (by rw [RD.out, RD0.out, FO.out]; simp only; rw [fillTo_le (i + 1) 4 (by omega) (by unfold fillTo; rw [FL.out]; simp only; rw [← HU.out]; simp only [if_true, HAT.out])])
                    clear hR
                    go_wp2_with fail
                    refine bodyPost_ret (v := .tuple #[.agg #[.int .i64 0, .int .i64 0, .int .i64 0, .int .i64 0, .int .i64 0], .bool false]) (by simp [results, Tryz.results34, go_sem, r0, r1, r2, r3, r4]) rfl ?_
                    exact readPost_no (((((OZ.out.setCell (.inr (Nat.le_of_eq HRB.out.symm)) _).setCell (.inr (Nat.le_of_eq HRB.out.symm)) _).setCell (.inr (Nat.le_of_eq HRB.out.symm)) _).setCell (.inr (Nat.le_of_eq HRB.out.symm)) _).setCell (.inr (Nat.le_of_eq HRB.out.symm)) _) RZ.out Evt.zero
                    --F2>
            · obtain rfl : i = 4 := by omega
              have g0 := cell_blk V9.out 0
              have g1 := cell_blk V9.out 1
              have g2 := cell_blk V9.out 2
              have g3 := cell_blk V9.out 3
              simp [arr4] at g0 g1 g2 g3
              have OW9 : Hid (Only [] w w9) := Lib.hid (OW8.out.thenN O9.out NVR.out.2.2)
              obtain ⟨v0, hv0⟩ : ∃ v0, v0 = vs.getD 0 0 := ⟨_, rfl⟩
              obtain ⟨v1, hv1⟩ : ∃ v1, v1 = vs.getD 1 0 := ⟨_, rfl⟩
              obtain ⟨v2, hv2⟩ : ∃ v2, v2 = vs.getD 2 0 := ⟨_, rfl⟩
              obtain ⟨v3, hv3⟩ : ∃ v3, v3 = vs.getD 3 0 := ⟨_, rfl⟩
              have EV : Hid (evOf k vs = ⟨(k : Int) + 1, v0, v1, v2, v3⟩) := Lib.hid (by rw [hv0, hv1, hv2, hv3]; rfl)
              simp only [List.getD_eq_getElem?_getD] at hv0 hv1 hv2 hv3
              try rw [← hv0] at g0
              try rw [← hv1] at g1
              try rw [← hv2] at g2
              try rw [← hv3] at g3
              clear hv0 hv1 hv2 hv3
              have hvlt := lt_of_cell g0
              go_upto_region 20 with fail
              obtain ⟨eb, heb⟩ : ∃ eb, eb = w9.heap.size := ⟨_, rfl⟩
              rw [← heb]
              obtain ⟨W9, hW9⟩ : ∃ W9, W9 = w9.alloc (.cells #[.int .i64 ((k : Int) + 1), .int .i64 v0, .int .i64 v1, .int .i64 v2, .int .i64 v3] 27) := ⟨_, rfl⟩
              rw [← hW9]
              have EB := Lib.hid (show W9.heap[eb]? = some (.cells #[.int .i64 ((k : Int) + 1), .int .i64 v0, .int .i64 v1, .int .i64 v2, .int .i64 v3] 27 (0, 0)) from by rw [hW9, heb]; exact blk_alloc_new _ _)
              have OW9' : Hid (Only [] w W9) := Lib.hid (by rw [hW9]; exact OW9.out.alloc _)
              have RW9 : Hid (W9.heap[rb]? = some (.cells #[.int .i64 0, .int .i64 0, .int .i64 0, .int .i64 0, .int .i64 0] 27 (0, 0))) := Lib.hid (by
                have h := O9.out.keep R8.out (by simpa using NVR.out.1)
                rw [hW9, blk_alloc_old (lt_of_blk h)]; exact h)
              have NRE : Hid (eb ≠ rb) := Lib.hid (by
                have h := lt_of_blk (O9.out.keep R8.out (by simpa using NVR.out.1))
                omega)
              have EC : Hid (∀ w', Only [] W9 w' → w'.cell? ⟨eb, 0, none⟩ = some (.int .i64 ((k : Int) + 1)) ∧ w'.cell? ⟨eb, 1, none⟩ = some (.int .i64 v0) ∧ w'.cell? ⟨eb, 2, none⟩ = some (.int .i64 v1) ∧ w'.cell? ⟨eb, 3, none⟩ = some (.int .i64 v2) ∧ w'.cell? ⟨eb, 4, none⟩ = some (.int .i64 v3)) := Lib.hid (fun w' o' => by
                have h := o'.keep EB.out (by simp)
                exact ⟨cell_blk h 0, cell_blk h 1, cell_blk h 2, cell_blk h 3, cell_blk h 4⟩)
              have VA := fun w' => valid_any w' ⟨(k : Int) + 1, v0, v1, v2, v3⟩
              unfold evV at VA
              have VAH := Lib.hid VA
              have hR := RW9.out
              have r0 := cell_blk hR 0
              have r1 := cell_blk hR 1
              have r2 := cell_blk hR 2
              have r3 := cell_blk hR 3
              have r4 := cell_blk hR 4
              simp at r0 r1 r2 r3 r4
              have f0 := free_blk hR 0
              have f1 := free_blk hR 1
              have f2 := free_blk hR 2
              have f3 := free_blk hR 3
              have f4 := free_blk hR 4
              have hlr := lt_of_blk hR
              clear heb hW9 VA g0 g1 g2 g3 hvlt hR
              have ES : Hid (∀ (w' : World) (a0 a1 a2 a3 a4 : Value), (w'.cell? ⟨eb, 0, none⟩ = some (.int .i64 ((k : Int) + 1)) ∧ w'.cell? ⟨eb, 1, none⟩ = some (.int .i64 v0) ∧ w'.cell? ⟨eb, 2, none⟩ = some (.int .i64 v1) ∧ w'.cell? ⟨eb, 3, none⟩ = some (.int .i64 v2) ∧ w'.cell? ⟨eb, 4, none⟩ = some (.int .i64 v3)) →
                  (fun (w' : World) => w'.cell? ⟨eb, 0, none⟩ = some (.int .i64 ((k : Int) + 1)) ∧ w'.cell? ⟨eb, 1, none⟩ = some (.int .i64 v0) ∧ w'.cell? ⟨eb, 2, none⟩ = some (.int .i64 v1) ∧ w'.cell? ⟨eb, 3, none⟩ = some (.int .i64 v2) ∧ w'.cell? ⟨eb, 4, none⟩ = some (.int .i64 v3)) (((((w'.setCell ⟨rb, 0, none⟩ a0).setCell ⟨rb, 1, none⟩ a1).setCell ⟨rb, 2, none⟩ a2).setCell ⟨rb, 3, none⟩ a3).setCell ⟨rb, 4, none⟩ a4)) := Lib.hid (by
                intro w' a0 a1 a2 a3 a4 h
                simp only [cell_set_blk NRE.out]
                exact h)
              by_cases hm0 : m = 0
              · subst hm0
                have hrest : rest = [] := List.eq_nil_of_length_eq_zero HM.out.symm
                have FIN : Hid (readB s = if validB ⟨(k : Int) + 1, v0, v1, v2, v3⟩ = true then some ⟨(k : Int) + 1, v0, v1, v2, v3⟩ else none) := Lib.hid (by
                  rw [RD.out, RD0.out, FO.out]; simp only; rw [FL.out]; simp only [hrest, EV.out, true_and])
                clear hrest
                go_region_held3 (fun w' => w'.cell? ⟨eb, 0, none⟩ = some (.int .i64 ((k : Int) + 1)) ∧ w'.cell? ⟨eb, 1, none⟩ = some (.int .i64 v0) ∧ w'.cell? ⟨eb, 2, none⟩ = some (.int .i64 v1) ∧ w'.cell? ⟨eb, 3, none⟩ = some (.int .i64 v2) ∧ w'.cell? ⟨eb, 4, none⟩ = some (.int .i64 v3))
                  (first | (with_reducible refine EC.out _ ?_; (repeat (with_reducible refine Only.drew ?_)); (first | with_reducible exact Only.refl _ _ | with_reducible assumption)) | (refine ES.out _ _ _ _ _ _ (EC.out _ ?_); (repeat (with_reducible refine Only.drew ?_)); (first | with_reducible exact Only.refl _ _ | with_reducible assumption)))
                  ((first
                    | (go_at_call 27
                       refine (VAH.out _).mono ?_
                       rintro e w13 ⟨rfl, o13⟩
                       have QA : Only [] W9 w13 := Only.then0 (by (repeat (with_reducible refine Only.drew ?_)); (first | with_reducible exact Only.refl _ _ | with_reducible assumption)) o13
                       have hR := QA.keep RW9.out (by simp)
                       have s0 := cell_blk hR 0
                       have s1 := cell_blk hR 1
                       have s2 := cell_blk hR 2
                       have s3 := cell_blk hR 3
                       have s4 := cell_blk hR 4
                       simp at s0 s1 s2 s3 s4
                       have t0 := free_blk hR 0
                       have t1 := free_blk hR 1
                       have t2 := free_blk hR 2
                       have t3 := free_blk hR 3
                       have t4 := free_blk hR 4
                       have hlt := lt_of_blk hR
                       clear hR o13)))
                all_goals
                  have OF := Lib.hid (OW9'.out.then0 QA)
                  go_wp2_with fail
                  refine bodyPost_ret (v := .tuple #[.agg #[.int .i64 ((k : Int) + 1), .int .i64 v0, .int .i64 v1, .int .i64 v2, .int .i64 v3], .bool (validB ⟨(k : Int) + 1, v0, v1, v2, v3⟩)]) (by simp [results, Tryz.results34, go_sem, s0, s1, s2, s3, s4]) rfl ?_
                  refine ⟨(((((OF.out.setCell (.inr (Nat.le_of_eq HRB.out.symm)) _).setCell (.inr (Nat.le_of_eq HRB.out.symm)) _).setCell (.inr (Nat.le_of_eq HRB.out.symm)) _).setCell (.inr (Nat.le_of_eq HRB.out.symm)) _).setCell (.inr (Nat.le_of_eq HRB.out.symm)) _), ⟨(k : Int) + 1, v0, v1, v2, v3⟩, validB ⟨(k : Int) + 1, v0, v1, v2, v3⟩, rfl, fun h => by rw [FIN.out, if_pos h], fun h => by rw [FIN.out, if_neg (by rw [h]; simp)]⟩
              · have hm1 : ((m : Int) == 0) = false := by simp; omega
                have hrest : rest ≠ [] := fun h => hm0 (by rw [HM.out, h]; rfl)
                have FIN : Hid (readB s = none) := Lib.hid (by
                  rw [RD.out, RD0.out, FO.out]; simp only; rw [FL.out]; simp only; rw [if_neg (fun h => hrest h.1)])
                clear hrest
                obtain ⟨e0, e1, e2, e3, e4⟩ := EC.out W9 (Only.refl _ _)
                have hle := lt_of_cell e0
                have hne : eb ≠ rb := NRE.out
                go_region
                all_goals
                  go_wp2_with fail
                  refine bodyPost_ret (v := .tuple #[.agg #[.int .i64 ((k : Int) + 1), .int .i64 v0, .int .i64 v1, .int .i64 v2, .int .i64 v3], .bool false]) (by simp [results, Tryz.results34, go_sem, r0, r1, r2, r3, r4]) rfl ?_
                  exact readPost_no (((((OW9'.out.drew.setCell (.inr (Nat.le_of_eq HRB.out.symm)) _).setCell (.inr (Nat.le_of_eq HRB.out.symm)) _).setCell (.inr (Nat.le_of_eq HRB.out.symm)) _).setCell (.inr (Nat.le_of_eq HRB.out.symm)) _).setCell (.inr (Nat.le_of_eq HRB.out.symm)) _) FIN.out ⟨(k : Int) + 1, v0, v1, v2, v3⟩
      · have hNe : (wk.toList == w0.toList) = false := by
          cases h : (wk.toList == w0.toList) with
          | false => rfl
          | true => exact absurd (Go.WideShapes.bytes_inj (by rw [← Lib.toList_data, ← Lib.toList_data]; exact beq_iff_eq.1 h)) hE
        have NK : Hid (wordB k ≠ w0) := Lib.hid (by rw [show wordB k = wk from HK.out.symm]; exact hE)
        clear hE
        go_quiet (fail)
        go_wp2_with fail
        go_roundw
        case rel => exact ⟨k + 1, by go_num, by omega, fun j hj => by
          by_cases e : j = k
          · subst e; exact NK.out
          · exact NE.out j (by omega), (O3.out.then0 O34.out).drewN _⟩
        case measure => simp [intOf]; omega
    · obtain rfl : k = 19 := by omega
      have hR := O3.out.keep R2.out (by simp)
      have r0 := cell_blk hR 0
      have r1 := cell_blk hR 1
      have r2 := cell_blk hR 2
      have r3 := cell_blk hR 3
      have r4 := cell_blk hR 4
      simp at r0 r1 r2 r3 r4
      have f0 := free_blk hR 0
      have f1 := free_blk hR 1
      have f2 := free_blk hR 2
      have f3 := free_blk hR 3
      have f4 := free_blk hR 4
      have hlr := lt_of_blk hR
      clear hR
      go_wp2_with fail
      refine bodyPost_ret (v := .tuple #[.agg #[.int .i64 0, .int .i64 0, .int .i64 0, .int .i64 0, .int .i64 0], .bool false]) (by simp [results, Tryz.results34, go_sem, r0, r1, r2, r3, r4]) rfl ?_
      exact readPost_no (((((((O2.out.then0 O3.out).setCell (.inr (Nat.le_of_eq HRB.out.symm)) _).setCell (.inr (Nat.le_of_eq HRB.out.symm)) _).setCell (.inr (Nat.le_of_eq HRB.out.symm)) _).setCell (.inr (Nat.le_of_eq HRB.out.symm)) _).setCell (.inr (Nat.le_of_eq HRB.out.symm)) _)) (by rw [RD.out, RD0.out, formOf_none 19 (by omega) (fun j _ h2 => NE.out j h2)]) Evt.zero
end Go.Proofs.YtncnepmgmphanaaGreatDoor
