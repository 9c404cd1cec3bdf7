/- A line of an event read, walked. No condition beside the library's variables. -/
import Derived.Test.YtncnepmgmphanaaGreatDoorMg23
import Derived.Deep.RegionHeld3
set_option linter.unusedVariables false
set_option linter.unusedSimpArgs false
set_option linter.unusedSectionVars false
namespace Go.Proofs.YtncnepmgmphanaaGreatDoor
section
open Go.RowKit
def Eg (s : ByteArray) (w : World) (e : Ending) (w' : World) : Prop :=
 Only [] w w' ∧ ∃ (v : cB) (ok : Bool), e = .returned (.tuple #[oU v, .bool ok]) ∧ (ok = true → eD s = some v) ∧ (ok = false → eD s = none)
theorem xP {w : World} {b r i j : Nat} {u : Value} (h : b ≠ r) : (w.setCell ⟨r, j, none⟩ u).cell? ⟨b, i, none⟩ = w.cell? ⟨b, i, none⟩ :=
 World.cell?_of_block (bM h u)
set_option maxRecDepth 100000 in
theorem ai3 (f : iN) (k : Nat) (hk : k < 4) : ∀ w, (Instr.index 95 (.agg #[.bool true, .bool f.t, .bool f.o, .bool f.l]) (.int .i64 k)).run Tryz.prog w = .ok (.bool (jo f k)) w := by
 rcases (show k = 0 ∨ k = 1 ∨ k = 2 ∨ k = 3 from by omega) with rfl | rfl | rfl | rfl <;> exact fun _ => by kernel_rfl
theorem ko {s : ByteArray} {w w' : World} (o : Only [] w w') (h : eD s = none) (v : cB) : Eg s w (.returned (.tuple #[oU v, .bool false])) w' :=
 ⟨o, v, false, rfl, (by intro h; cases h), fun _ => h⟩
def qh (w : World) (b : Nat) (ws : List ByteArray) : Prop := w.heap[b]? = some (.cells (ws.map Value.string).toArray 9 (0, 0))
theorem qh.cell {w : World} {b : Nat} {ws : List ByteArray} (h : qh w b ws) {k : Nat} (hk : k < ws.length) : w.cell? ⟨b, k, none⟩ = some (.string (ws.getD k ByteArray.empty)) := by
 rw [aa h]
 simp [List.getElem?_eq_getElem hk, List.getD_eq_getElem?_getD]
set_option maxRecDepth 100000 in
set_option maxHeartbeats 8000000 in
theorem aen (w : World) (hL : jc w) (s : ByteArray) (hs : s.size < 4294967281) :
   Calls Tryz.prog 34 #[.string s] w (Eg s w) := by
 obtain ⟨ws, hws⟩ : ∃ ws, ws = dA s := ⟨_, rfl⟩
 have hpos : 0 < ws.length := by rw [hws]; exact lX s
 have RD : Hid (eD s = match kG (ws.headD ByteArray.empty) 19 with
   | none => none
   | some k => match dW (aI k) ws.tail 4 with
     | none => none
     | some (vs, rest) => if rest = [] ∧ bW (Ec k vs) = true then some (Ec k vs) else none) := Lib.hid (by rw [hws]; rfl)
 have WS : Hid (∀ r ∈ ws, r.size ≤ 281474976710656) := Lib.hid (fun r hr => by rw [hws] at hr; have := Oh hr; omega)
 obtain ⟨rb, hrb⟩ : ∃ rb, rb = w.heap.size := ⟨_, rfl⟩
 have dN := Lib.hid hrb
 obtain ⟨W0, hW0⟩ : ∃ W0, W0 = w.alloc (.cells #[.int .i64 0, .int .i64 0, .int .i64 0, .int .i64 0, .int .i64 0] 27) := ⟨_, rfl⟩
 have HW0 := Lib.hid hW0
 have O0 : Hid (Only [] w W0) := Lib.hid (by rw [hW0]; exact (Only.refl _ _).alloc _)
 have R0 : Hid (W0.heap[rb]? = some (.cells #[.int .i64 0, .int .i64 0, .int .i64 0, .int .i64 0, .int .i64 0] 27 (0, 0))) := Lib.hid (by rw [hW0, hrb]; exact blk_alloc_new w _)
 have SP := Zv W0 (hL.jJ O0.out) s blank hs (by decide)
 have ew : Lib.splitB blank 0 (Lib.countB s blank) s = ws := hws.symm
 rw [ew] at SP
 have SPH := Lib.hid SP
 have HL := Lib.hid hL
 obtain ⟨n, hn⟩ : ∃ n, n = ws.length := ⟨_, rfl⟩
 have HN := Lib.hid hn
 rw [← hn] at SPH hpos
 clear hws hrb hW0 SP ew hL hn hs
 go_enter Tryz.func34, Tryz.ntmps34
 go_wp2_with fail
 rw [← dN.out, ← HW0.out]
 refine SPH.out.mono ?_; rintro e w1 ⟨wb, rfl, hwb, hwl, o1⟩
 have WB1 : Hid (qh w1 wb ws) := Lib.hid hwb
 have O1 := Lib.hid (O0.out.bF o1)
 have R1 := Lib.hid (o1.keep R0.out (by simp))
 clear hwb o1 SPH
 go_wp2_with fail
 refine (sO _).mono ?_; rintro e w2 ⟨b, rfl, hb, hbl, o2⟩
 have O2 := Lib.hid (O1.out.bF o2)
 have R2 := Lib.hid (o2.keep R1.out (by simp))
 have WB2 : Hid (qh w2 wb ws) := Lib.hid (o2.keep WB1.out (by simp))
 have FB2 := Lib.hid hb
 clear hb o2 hbl
 go_wp2_with fail
 obtain ⟨w0, hw0⟩ : ∃ w0, w0 = ws.getD 0 ByteArray.empty := ⟨_, rfl⟩
 have H0 := Lib.hid hw0
 have Uq : Hid (ws.headD ByteArray.empty = w0) := Lib.hid (by rw [hw0]; cases ws <;> rfl)
 clear hw0
 go_loopw [5, 6, 18] (fun _ _ r wr => ∃ k : Nat, r = .int .i64 k ∧ k ≤ 19 ∧ (∀ j, j < k → gV j ≠ w0) ∧ Only [] w2 wr) (fun _ _ r _ => 19 - (intOf r).toNat)
 case atStart => exact ⟨0, rfl, by omega, fun j hj => by omega, Only.refl _ _⟩
 case round =>
   obtain ⟨k, rfl, hk, hne, ho⟩ := hrel
   obtain ⟨w3, hw3⟩ : ∃ w3, w3 = wr := ⟨_, rfl⟩
   subst hw3
   have NE := Lib.hid hne
   have O3 := Lib.hid ho
   clear hne ho
   by_cases qo : k < 19
   · have hk1 : (0 : Int) ≤ (k : Int) := by omega
     have hk2 : (k : Int) < 19 := by omega
     have hn1 : (0 : Int) < (n : Int) := by omega
     obtain ⟨d0, d1, d2, d3⟩ := mH (O3.out.keep FB2.out (by simp)) qo
     have WB3 : Hid (qh w3 wb ws) := Lib.hid (O3.out.keep WB2.out (by simp))
     have c0 := WB3.out.cell (k := 0) (by rw [← HN.out]; exact hpos)
     rw [← H0.out] at c0
     have ak6 := lt_of_cell c0
     have ak4 := lt_of_cell d0
     obtain ⟨wk, hwk⟩ : ∃ wk : ByteArray, wk = ⟨(aI k).word.toArray⟩ := ⟨_, rfl⟩
     rw [← hwk] at d0
     have HK := Lib.hid hwk
     clear hwk
     go_wp2_with fail
     obtain ⟨W4, rG⟩ : ∃ W4, W4 = w3.alloc (.cells #[.string wk, .bool (aI k).t, .bool (aI k).o, .bool (aI k).l] 97) := ⟨_, rfl⟩
     rw [← rG]
     obtain ⟨fb, dO⟩ : ∃ fb, fb = w3.heap.size := ⟨_, rfl⟩
     rw [← dO]
     have FB4 := Lib.hid (show W4.heap[fb]? = some (.cells #[.string wk, .bool (aI k).t, .bool (aI k).o, .bool (aI k).l] 97 (0, 0)) from by rw [rG, dO]; exact blk_alloc_new _ _)
     have J9 := Lib.hid (show Only [] w3 W4 from by rw [rG]; exact (Only.refl _ _).alloc _)
     have g0 := aa FB4.out 0
     simp at g0
     have c4 := J9.out.keepCell c0 (by simp)
     clear rG dO d0 d1 d2 d3 c0 ak6 ak4
     by_cases hE : wk = w0
     · have hEq : (wk.toList == w0.toList) = true := by rw [hE]; simp
       go_quiet (fail)
       have FO : Hid (kG w0 19 = some k) := Lib.hid (Ri qo (by rw [← hE]; exact HK.out.symm) 19 (by omega) (by omega) (fun j _ h2 => NE.out j h2))
       clear hEq hE g0 c4
       obtain ⟨w5, dZ⟩ : ∃ w5, w5 = W4.drewN nq := ⟨_, rfl⟩
       rw [← dZ]
       have O5 := Lib.hid (show Only [] w3 w5 from by rw [dZ]; exact J9.out.drewN _)
       have FB5 := Lib.hid (show w5.heap[fb]? = some (.cells #[.string wk, .bool (aI k).t, .bool (aI k).o, .bool (aI k).l] 97 (0, 0)) from by rw [dZ]; exact FB4.out)
       clear dZ
       go_upto_region 7 with fail
       obtain ⟨vb, hvb⟩ : ∃ vb, vb = w5.heap.size := ⟨_, rfl⟩
       rw [← hvb]
       obtain ⟨w6, sF⟩ : ∃ w6, w6 = w5.alloc (.cells #[.int .i64 0, .int .i64 0, .int .i64 0, .int .i64 0] 99) := ⟨_, rfl⟩
       rw [← sF]
       have V6 := Lib.hid (show w6.heap[vb]? = some (.cells #[.int .i64 0, .int .i64 0, .int .i64 0, .int .i64 0] 99 (0, 0)) from by rw [sF, hvb]; exact blk_alloc_new _ _)
       have O6 := Lib.hid (show Only [] w3 w6 from by rw [sF]; exact O5.out.alloc _)
       have FB6 := Lib.hid (show w6.heap[fb]? = some (.cells #[.string wk, .bool (aI k).t, .bool (aI k).o, .bool (aI k).l] 97 (0, 0)) from by rw [sF, cO (aK FB5.out)]; exact FB5.out)
       have NV : Hid (w5.heap.size ≤ vb) := Lib.hid (Nat.le_of_eq hvb.symm)
       clear sF hvb
       go_cut [8] (fun s8 wx => ∃ m o, s8 = .slice (some ⟨wb, o, none⟩) m m ∧ m + 1 = n ∧ (0 < m → o = 1) ∧ wx = w6)
       case first =>
         by_cases h1 : n = 1
         · subst h1
           go_wp2_with fail
           go_meet
           exact ⟨0, 0, rfl, rfl, by omega, rfl⟩
         · have h2 : (1 : Int) < (n : Int) := by omega
           have h3 : ¬ n = 1 := h1
           go_wp2_with fail
           go_meet
           exact ⟨n - 1, 1, rfl, by omega, fun _ => rfl, rfl⟩
       case rest =>
         obtain ⟨m0, o0, rfl, hm0, ho0, rfl⟩ := hcut
         have M0 := Lib.hid hm0
         have HO0 := Lib.hid ho0
         have g0 := aa FB6.out 0
         have g1 := aa FB6.out 1
         have g2 := aa FB6.out 2
         have g3 := aa FB6.out 3
         simp at g0 g1 g2 g3
         have wO := fun w' => Da w' (aI k)
         unfold YK at wO
         rw [← HK.out] at wO
         have UF := Lib.hid wO
         clear hm0 ho0 wO
         obtain ⟨w7, hw7⟩ : ∃ w7, w7 = wc := ⟨_, rfl⟩
         subst hw7
         go_wp2_with fail
         refine (UF.out _).mono ?_; rintro e w8 ⟨rfl, o8⟩
         have O8 := Lib.hid (O6.out.bF o8)
         have V8 := Lib.hid (show w8.heap[vb]? = some (.cells (qF []) 99 (0, 0)) from o8.keep V6.out (by simp))
         clear o8 g0 g1 g2 g3
         have OW8 : Hid (Only [] w w8) := Lib.hid ((O2.out.bF O3.out).bF O8.out)
         have WB8 : Hid (qh w8 wb ws) := Lib.hid ((O3.out.bF O8.out).keep WB2.out (by simp))
         have R8 := Lib.hid ((O3.out.bF O8.out).keep R2.out (by simp))
         have J8 : Hid (rb ≠ vb ∧ wb ≠ vb ∧ w.heap.size ≤ vb) := Lib.hid (by
           have h1 := aK (O5.out.keep (O3.out.keep R2.out (by simp)) (by simp))
           have h2 := aK (O5.out.keep (O3.out.keep WB2.out (by simp)) (by simp))
           have h3 := NV.out
           have h4 := O5.out.size
           have h5 := O3.out.size
           have h6 := O2.out.size
           exact ⟨by omega, by omega, by omega⟩)
         have VLT : Hid (vb < w8.heap.size) := Lib.hid (aK V8.out)
         have L8 := Lib.hid (HL.out.jJ OW8.out)
         go_wp2_with fail
         go_loopw [8, 9, 10, 11, 12, 33] (fun s8 _ _ _ _ r wr => ∃ (i m o : Nat) (vs : List Int) (rest : List ByteArray), r = .int .i64 i ∧ i ≤ 4 ∧ dW (aI k) ws.tail i = some (vs, rest) ∧ m = rest.length ∧ s8 = .slice (some ⟨wb, o, none⟩) m m ∧ (0 < m → o + m = n) ∧ wr.heap[vb]? = some (.cells (qF vs) 99 (0, 0)) ∧ Only [vb] w8 wr) (fun _ _ _ _ _ r _ => 4 - (intOf r).toNat)
         case atStart => exact ⟨0, m0, o0, [], ws.tail, rfl, by omega, rfl, by rw [List.length_tail, ← HN.out]; have := M0.out; omega, rfl, fun h => by have := HO0.out h; have := M0.out; omega, V8.out, Only.refl _ _⟩
         case round =>
           obtain ⟨i, m, o, vs, rest, rfl, hi4, hfl, hm, rfl, hom, hV, ho⟩ := hrel
           obtain ⟨w9, hw9⟩ : ∃ w9, w9 = wr := ⟨_, rfl⟩
           subst hw9
           have FL := Lib.hid hfl
           have HM := Lib.hid hm
           have HOM := Lib.hid hom
           have V9 := Lib.hid hV
           have O9 := Lib.hid ho
           clear hfl hm hom hV ho
           by_cases hi : i < 4
           · have hix := ai3 (aI k) i hi
             obtain ⟨u, hu⟩ : ∃ u, u = jo (aI k) i := ⟨_, rfl⟩
             rw [← hu] at hix
             have HU := Lib.hid hu
             clear hu
             cases u with
             | false =>
               go_wp2_with fail
               go_roundw
               case rel => exact ⟨i + 1, m, o, vs ++ [0], rest, by go_num, by omega, by unfold dW; rw [FL.out]; simp only; rw [← HU.out]; rfl, HM.out, rfl, HOM.out, by rw [ab7]; exact V9.out, O9.out⟩
               case measure => simp [intOf]; omega
             | true =>
               have TF : Hid (Only [] w w9) := Lib.hid (OW8.out.afI O9.out J8.out.2.2)
               have L9 := Lib.hid (HL.out.jJ TF.out)
               cases rest with
               | nil =>
                 obtain rfl : m = 0 := HM.out
                 --<F1
                 have hR := O9.out.keep R8.out (by simpa using J8.out.1)
                 have r0 := aa hR 0
                 have r1 := aa hR 1
                 have r2 := aa hR 2
                 have r3 := aa hR 3
                 have r4 := aa hR 4
                 simp at r0 r1 r2 r3 r4
                 have f0 := ay hR 0
                 have f1 := ay hR 1
                 have f2 := ay hR 2
                 have f3 := ay hR 3
                 have f4 := ay hR 4
                 have hlr := aK hR
                 have OZ : Hid (Only [] w _) := Lib.hid (TF.out)
                 have RZ : Hid (eD s = none) := Lib.hid (by rw [RD.out, Uq.out, FO.out]; simp only; rw [xq (i + 1) 4 (by omega) (by unfold dW; rw [FL.out]; simp only; rw [← HU.out]; rfl)])
                 clear hR
                 go_wp2_with fail
                 refine bodyPost_ret (v := .tuple #[.agg #[.int .i64 0, .int .i64 0, .int .i64 0, .int .i64 0, .int .i64 0], .bool false]) (by simp [results, Tryz.results34, go_sem, r0, r1, r2, r3, r4]) rfl ?_
                 exact ko (((((OZ.out.setCell (.inr (Nat.le_of_eq dN.out.symm)) _).setCell (.inr (Nat.le_of_eq dN.out.symm)) _).setCell (.inr (Nat.le_of_eq dN.out.symm)) _).setCell (.inr (Nat.le_of_eq dN.out.symm)) _).setCell (.inr (Nat.le_of_eq dN.out.symm)) _) RZ.out cB.zero
                 --F1>
               | cons r rest' =>
                 have hm1 : m = rest'.length + 1 := HM.out
                 have hmp : (0 : Int) < (m : Int) := by omega
                 have hmN : 0 < m := by omega
                 have hm0 : ((m : Int) == 0) = false := by simp; omega
                 have hoe := HOM.out (by omega)
                 obtain ⟨hwd, hmem⟩ := ZG FL.out (o := o) (by rw [← HN.out, ← hm1]; exact hoe)
                 have WB9 : Hid (qh w9 wb ws) := Lib.hid (O9.out.keep WB8.out (by simpa using J8.out.2.1))
                 have cw := WB9.out.cell (k := o) (by rw [← HN.out]; omega)
                 rw [hwd] at cw
                 have AP := Lib.hid (adR w9 L9.out r (WS.out r hmem))
                 have HME := Lib.hid hm1
                 clear hwd hmem hoe hm1
                 go_wp2_with fail
                 refine AP.out.mono ?_; rintro e xO ⟨pI, ⟨nv, hat, rfl⟩ | ⟨hat, nv, te, pp, rfl⟩⟩
                 · have Ud := Lib.hid pI
                   have HAT := Lib.hid hat
                   have adr : Hid (Only [vb] w8 xO) := Lib.hid (O9.out.bF pI)
                   have hnb := acH hat
                   have IT := DI xO (L9.out.jJ pI) nv hnb.1 hnb.2
                   obtain ⟨IB, hIB⟩ : ∃ IB : ByteArray, IB = ⟨(Lib.itoa nv).toArray⟩ := ⟨_, rfl⟩
                   rw [← hIB] at IT
                   have HIB := Lib.hid hIB
                   have ITW := Lib.hid (fun w' (o' : Only [] xO w') => (DI w' ((L9.out.jJ pI).jJ o') nv hnb.1 hnb.2))
                   rw [← hIB] at ITW
                   have CW := Lib.hid (fun w' (o' : Only [] xO w') => o'.keepCell (pI.keepCell cw (by simp)) (by simp))
                   clear pI hat hIB IT cw AP
                   go_upto_region 15 with fail
                   go_cut [59] (fun s59 wx => s59 = .bool (!(IB.toList == r.toList)) ∧ Only [] xO wx)
                   case first =>
                     go_region_held3 (fun w' => w'.cell? ⟨wb, o, none⟩ = some (.string r))
                       (with_reducible refine CW.out _ ?_; (repeat (with_reducible refine Only.drew ?_)); (first | with_reducible exact Only.refl _ _ | with_reducible assumption))
                       ((first
                         | (go_at_call 44
                            refine (ITW.out _ (by (repeat (with_reducible refine Only.drew ?_)); (first | with_reducible exact Only.refl _ _ | with_reducible assumption))).mono ?_
                            rintro e BM ⟨rfl, yB⟩
                            have QA : Only [] xO BM := Only.bF (by (repeat (with_reducible refine Only.drew ?_)); (first | with_reducible exact Only.refl _ _ | with_reducible assumption)) yB
                            clear yB)))
                     all_goals
                       go_wp2_with fail
                       go_meet
                       exact ⟨rfl, by (repeat (with_reducible refine Only.drew ?_)); (first | with_reducible exact Only.refl _ _ | with_reducible assumption)⟩
                   case rest =>
                     obtain ⟨rfl, ho⟩ := hcut
                     obtain ⟨BM, akY⟩ : ∃ BM, BM = wc := ⟨_, rfl⟩
                     subst akY
                     have O11 := Lib.hid ho
                     have adL : Hid (Only [vb] w8 BM) := Lib.hid (adr.out.bF ho)
                     clear ho
                     cases hcmp : (IB.toList == r.toList) with
                     | false =>
                       have HNE : Hid (¬ (⟨(Lib.itoa nv).toArray⟩ : ByteArray) = r) := Lib.hid (by
                         rw [← HIB.out]
                         intro e
                         rw [e] at hcmp
                         simp at hcmp)
                       have ajd : (IB.toList == r.toList) = false := hcmp
                       --<F3
                       have hR := adL.out.keep R8.out (by simpa using J8.out.1)
                       have r0 := aa hR 0
                       have r1 := aa hR 1
                       have r2 := aa hR 2
                       have r3 := aa hR 3
                       have r4 := aa hR 4
                       simp at r0 r1 r2 r3 r4
                       have f0 := ay hR 0
                       have f1 := ay hR 1
                       have f2 := ay hR 2
                       have f3 := ay hR 3
                       have f4 := ay hR 4
                       have hlr := aK hR
                       have OZ : Hid (Only [] w _) := Lib.hid ((TF.out.bF Ud.out).bF O11.out)
                       have RZ : Hid (eD s = none) := Lib.hid (by rw [RD.out, Uq.out, FO.out]; simp only; rw [xq (i + 1) 4 (by omega) (by unfold dW; rw [FL.out]; simp only; rw [← HU.out]; simp only [if_true, HAT.out]; rw [if_neg HNE.out])])
                       clear hR
                       go_wp2_with fail
                       refine bodyPost_ret (v := .tuple #[.agg #[.int .i64 0, .int .i64 0, .int .i64 0, .int .i64 0, .int .i64 0], .bool false]) (by simp [results, Tryz.results34, go_sem, r0, r1, r2, r3, r4]) rfl ?_
                       exact ko (((((OZ.out.setCell (.inr (Nat.le_of_eq dN.out.symm)) _).setCell (.inr (Nat.le_of_eq dN.out.symm)) _).setCell (.inr (Nat.le_of_eq dN.out.symm)) _).setCell (.inr (Nat.le_of_eq dN.out.symm)) _).setCell (.inr (Nat.le_of_eq dN.out.symm)) _) RZ.out cB.zero
                       --F3>
                     | true =>
                       have HNE : Hid ((⟨(Lib.itoa nv).toArray⟩ : ByteArray) = r) := Lib.hid (by
                         rw [← HIB.out]
                         exact Go.WideShapes.bytes_inj (by rw [← Lib.toList_data, ← Lib.toList_data]; exact beq_iff_eq.1 hcmp))
                       have ajd : (IB.toList == r.toList) = true := hcmp
                       have hvl := (F8 i vs _ FL.out).1
                       have HVL := Lib.hid hvl
                       have hvc := aa (O11.out.keep (Ud.out.keep V9.out (by simp)) (by simp)) i
                       rw [ag3 vs i hi] at hvc
                       have hvf := ay (O11.out.keep (Ud.out.keep V9.out (by simp)) (by simp)) i
                       have aiC := lt_of_cell hvc
                       have hi1 : (0 : Int) ≤ (i : Int) := by omega
                       have hi2 : (i : Int) < 4 := by omega
                       have V12 : Hid (∀ w' x, w' = (BM.setCell ⟨vb, i, none⟩ x) → x = .int .i64 nv → w'.heap[vb]? = some (.cells (qF (vs ++ [nv])) 99 (0, 0))) := Lib.hid (by
                         rintro w' x rfl rfl
                         rw [aR (O11.out.keep (Ud.out.keep V9.out (by simp)) (by simp)), show (qF vs).setIfInBounds i (.int .i64 nv) = qF (vs ++ [nv]) from by rw [← HVL.out]; exact acD vs nv (by rw [HVL.out]; exact hi)])
                       have FL2 : Hid (dW (aI k) ws.tail (i + 1) = some (vs ++ [nv], rest')) := Lib.hid (by
                         unfold dW; rw [FL.out]; simp only; rw [← HU.out]; simp only [if_true, HAT.out]; rw [if_pos HNE.out])
                       clear hcmp hvl
                       by_cases hm2 : m = 1
                       · subst hm2
                         have hrl : rest'.length = 0 := by have := HME.out; omega
                         have HRL := Lib.hid hrl
                         clear hrl
                         go_wp2_with fail
                         go_region
                         all_goals
                           go_wp2_with fail
                           go_roundw
                           case rel => exact ⟨i + 1, 0, o, vs ++ [nv], rest', by go_num, by omega, FL2.out, HRL.out.symm, rfl, fun h => by omega, V12.out (BM.setCell ⟨vb, i, none⟩ (.int .i64 nv)) _ rfl rfl, (adL.out.setCell (.inl (by simp)) _).drew⟩
                           case measure => simp [intOf]; omega
                       · have hm3 : (1 : Int) < (m : Int) := by omega
                         go_wp2_with fail
                         go_region
                         all_goals
                           go_wp2_with fail
                           go_roundw
                           case rel => exact ⟨i + 1, m - 1, o + 1, vs ++ [nv], rest', by go_num, by omega, FL2.out, by have := HME.out; omega, rfl, fun h => by have := HOM.out (by omega); omega, V12.out (BM.setCell ⟨vb, i, none⟩ (.int .i64 nv)) _ rfl rfl, (adL.out.setCell (.inl (by simp)) _).drew⟩
                           case measure => simp [intOf]; omega
                 · have Ud := Lib.hid pI
                   have HAT := Lib.hid hat
                   have adr : Hid (Only [vb] w8 xO) := Lib.hid (O9.out.bF pI)
                   clear pI hat cw AP
                   go_upto_region 15 with fail
                   go_quiet (fail)
                   obtain ⟨Yq, ae1⟩ : ∃ Yq, Yq = xO.drewN nq := ⟨_, rfl⟩
                   rw [← ae1]
                   have O12 := Lib.hid (show Only [] xO Yq from by rw [ae1]; exact (Only.refl _ _).drewN _)
                   clear ae1
                   --<F2
                   have hR := O12.out.keep (adr.out.keep R8.out (by simpa using J8.out.1)) (by simp)
                   have r0 := aa hR 0
                   have r1 := aa hR 1
                   have r2 := aa hR 2
                   have r3 := aa hR 3
                   have r4 := aa hR 4
                   simp at r0 r1 r2 r3 r4
                   have f0 := ay hR 0
                   have f1 := ay hR 1
                   have f2 := ay hR 2
                   have f3 := ay hR 3
                   have f4 := ay hR 4
                   have hlr := aK hR
                   have OZ : Hid (Only [] w _) := Lib.hid ((TF.out.bF Ud.out).bF O12.out)
                   have RZ : Hid (eD s = none) := Lib.hid (by rw [RD.out, Uq.out, FO.out]; simp only; rw [xq (i + 1) 4 (by omega) (by unfold dW; rw [FL.out]; simp only; rw [← HU.out]; simp only [if_true, HAT.out])])
                   clear hR
                   go_wp2_with fail
                   refine bodyPost_ret (v := .tuple #[.agg #[.int .i64 0, .int .i64 0, .int .i64 0, .int .i64 0, .int .i64 0], .bool false]) (by simp [results, Tryz.results34, go_sem, r0, r1, r2, r3, r4]) rfl ?_
                   exact ko (((((OZ.out.setCell (.inr (Nat.le_of_eq dN.out.symm)) _).setCell (.inr (Nat.le_of_eq dN.out.symm)) _).setCell (.inr (Nat.le_of_eq dN.out.symm)) _).setCell (.inr (Nat.le_of_eq dN.out.symm)) _).setCell (.inr (Nat.le_of_eq dN.out.symm)) _) RZ.out cB.zero
                   --F2>
           · obtain rfl : i = 4 := by omega
             have g0 := aa V9.out 0
             have g1 := aa V9.out 1
             have g2 := aa V9.out 2
             have g3 := aa V9.out 3
             simp [qF] at g0 g1 g2 g3
             have TF : Hid (Only [] w w9) := Lib.hid (OW8.out.afI O9.out J8.out.2.2)
             obtain ⟨v0, hv0⟩ : ∃ v0, v0 = vs.getD 0 0 := ⟨_, rfl⟩
             obtain ⟨v1, hv1⟩ : ∃ v1, v1 = vs.getD 1 0 := ⟨_, rfl⟩
             obtain ⟨v2, hv2⟩ : ∃ v2, v2 = vs.getD 2 0 := ⟨_, rfl⟩
             obtain ⟨v3, hv3⟩ : ∃ v3, v3 = vs.getD 3 0 := ⟨_, rfl⟩
             have EV : Hid (Ec k vs = ⟨(k : Int) + 1, v0, v1, v2, v3⟩) := Lib.hid (by rw [hv0, hv1, hv2, hv3]; rfl)
             simp only [List.getD_eq_getElem?_getD] at hv0 hv1 hv2 hv3
             try rw [← hv0] at g0
             try rw [← hv1] at g1
             try rw [← hv2] at g2
             try rw [← hv3] at g3
             clear hv0 hv1 hv2 hv3
             have aiC := lt_of_cell g0
             go_upto_region 20 with fail
             obtain ⟨eb, NT⟩ : ∃ eb, eb = w9.heap.size := ⟨_, rfl⟩
             rw [← NT]
             obtain ⟨W9, oJ⟩ : ∃ W9, W9 = w9.alloc (.cells #[.int .i64 ((k : Int) + 1), .int .i64 v0, .int .i64 v1, .int .i64 v2, .int .i64 v3] 27) := ⟨_, rfl⟩
             rw [← oJ]
             have EB := Lib.hid (show W9.heap[eb]? = some (.cells #[.int .i64 ((k : Int) + 1), .int .i64 v0, .int .i64 v1, .int .i64 v2, .int .i64 v3] 27 (0, 0)) from by rw [oJ, NT]; exact blk_alloc_new _ _)
             have ahu : Hid (Only [] w W9) := Lib.hid (by rw [oJ]; exact TF.out.alloc _)
             have RW9 : Hid (W9.heap[rb]? = some (.cells #[.int .i64 0, .int .i64 0, .int .i64 0, .int .i64 0, .int .i64 0] 27 (0, 0))) := Lib.hid (by
               have h := O9.out.keep R8.out (by simpa using J8.out.1)
               rw [oJ, cO (aK h)]; exact h)
             have NRE : Hid (eb ≠ rb) := Lib.hid (by
               have h := aK (O9.out.keep R8.out (by simpa using J8.out.1))
               omega)
             have EC : Hid (∀ w', Only [] W9 w' → w'.cell? ⟨eb, 0, none⟩ = some (.int .i64 ((k : Int) + 1)) ∧ w'.cell? ⟨eb, 1, none⟩ = some (.int .i64 v0) ∧ w'.cell? ⟨eb, 2, none⟩ = some (.int .i64 v1) ∧ w'.cell? ⟨eb, 3, none⟩ = some (.int .i64 v2) ∧ w'.cell? ⟨eb, 4, none⟩ = some (.int .i64 v3)) := Lib.hid (fun w' o' => by
               have h := o'.keep EB.out (by simp)
               exact ⟨aa h 0, aa h 1, aa h 2, aa h 3, aa h 4⟩)
             have VA := fun w' => Jt w' ⟨(k : Int) + 1, v0, v1, v2, v3⟩
             unfold oU at VA
             have yS := Lib.hid VA
             have hR := RW9.out
             have r0 := aa hR 0
             have r1 := aa hR 1
             have r2 := aa hR 2
             have r3 := aa hR 3
             have r4 := aa hR 4
             simp at r0 r1 r2 r3 r4
             have f0 := ay hR 0
             have f1 := ay hR 1
             have f2 := ay hR 2
             have f3 := ay hR 3
             have f4 := ay hR 4
             have hlr := aK hR
             clear NT oJ VA g0 g1 g2 g3 aiC hR
             have ES : Hid (∀ (w' : World) (a0 a1 a2 a3 a4 : Value), (w'.cell? ⟨eb, 0, none⟩ = some (.int .i64 ((k : Int) + 1)) ∧ w'.cell? ⟨eb, 1, none⟩ = some (.int .i64 v0) ∧ w'.cell? ⟨eb, 2, none⟩ = some (.int .i64 v1) ∧ w'.cell? ⟨eb, 3, none⟩ = some (.int .i64 v2) ∧ w'.cell? ⟨eb, 4, none⟩ = some (.int .i64 v3)) →
                 (fun (w' : World) => w'.cell? ⟨eb, 0, none⟩ = some (.int .i64 ((k : Int) + 1)) ∧ w'.cell? ⟨eb, 1, none⟩ = some (.int .i64 v0) ∧ w'.cell? ⟨eb, 2, none⟩ = some (.int .i64 v1) ∧ w'.cell? ⟨eb, 3, none⟩ = some (.int .i64 v2) ∧ w'.cell? ⟨eb, 4, none⟩ = some (.int .i64 v3)) (((((w'.setCell ⟨rb, 0, none⟩ a0).setCell ⟨rb, 1, none⟩ a1).setCell ⟨rb, 2, none⟩ a2).setCell ⟨rb, 3, none⟩ a3).setCell ⟨rb, 4, none⟩ a4)) := Lib.hid (by
               intro w' a0 a1 a2 a3 a4 h
               simp only [xP NRE.out]
               exact h)
             by_cases hm0 : m = 0
             · subst hm0
               have hrest : rest = [] := List.eq_nil_of_length_eq_zero HM.out.symm
               have FIN : Hid (eD s = if bW ⟨(k : Int) + 1, v0, v1, v2, v3⟩ = true then some ⟨(k : Int) + 1, v0, v1, v2, v3⟩ else none) := Lib.hid (by
                 rw [RD.out, Uq.out, FO.out]; simp only; rw [FL.out]; simp only [hrest, EV.out, true_and])
               clear hrest
               go_region_held3 (fun w' => w'.cell? ⟨eb, 0, none⟩ = some (.int .i64 ((k : Int) + 1)) ∧ w'.cell? ⟨eb, 1, none⟩ = some (.int .i64 v0) ∧ w'.cell? ⟨eb, 2, none⟩ = some (.int .i64 v1) ∧ w'.cell? ⟨eb, 3, none⟩ = some (.int .i64 v2) ∧ w'.cell? ⟨eb, 4, none⟩ = some (.int .i64 v3))
                 (first | (with_reducible refine EC.out _ ?_; (repeat (with_reducible refine Only.drew ?_)); (first | with_reducible exact Only.refl _ _ | with_reducible assumption)) | (refine ES.out _ _ _ _ _ _ (EC.out _ ?_); (repeat (with_reducible refine Only.drew ?_)); (first | with_reducible exact Only.refl _ _ | with_reducible assumption)))
                 ((first
                   | (go_at_call 27
                      refine (yS.out _).mono ?_
                      rintro e w13 ⟨rfl, o13⟩
                      have QA : Only [] W9 w13 := Only.bF (by (repeat (with_reducible refine Only.drew ?_)); (first | with_reducible exact Only.refl _ _ | with_reducible assumption)) o13
                      have hR := QA.keep RW9.out (by simp)
                      have s0 := aa hR 0
                      have s1 := aa hR 1
                      have s2 := aa hR 2
                      have s3 := aa hR 3
                      have s4 := aa hR 4
                      simp at s0 s1 s2 s3 s4
                      have t0 := ay hR 0
                      have t1 := ay hR 1
                      have t2 := ay hR 2
                      have t3 := ay hR 3
                      have t4 := ay hR 4
                      have hlt := aK hR
                      clear hR o13)))
               all_goals
                 have OF := Lib.hid (ahu.out.bF QA)
                 go_wp2_with fail
                 refine bodyPost_ret (v := .tuple #[.agg #[.int .i64 ((k : Int) + 1), .int .i64 v0, .int .i64 v1, .int .i64 v2, .int .i64 v3], .bool (bW ⟨(k : Int) + 1, v0, v1, v2, v3⟩)]) (by simp [results, Tryz.results34, go_sem, s0, s1, s2, s3, s4]) rfl ?_
                 refine ⟨(((((OF.out.setCell (.inr (Nat.le_of_eq dN.out.symm)) _).setCell (.inr (Nat.le_of_eq dN.out.symm)) _).setCell (.inr (Nat.le_of_eq dN.out.symm)) _).setCell (.inr (Nat.le_of_eq dN.out.symm)) _).setCell (.inr (Nat.le_of_eq dN.out.symm)) _), ⟨(k : Int) + 1, v0, v1, v2, v3⟩, bW ⟨(k : Int) + 1, v0, v1, v2, v3⟩, rfl, fun h => by rw [FIN.out, if_pos h], fun h => by rw [FIN.out, if_neg (by rw [h]; simp)]⟩
             · have hm1 : ((m : Int) == 0) = false := by simp; omega
               have hrest : rest ≠ [] := fun h => hm0 (by rw [HM.out, h]; rfl)
               have FIN : Hid (eD s = none) := Lib.hid (by
                 rw [RD.out, Uq.out, FO.out]; simp only; rw [FL.out]; simp only; rw [if_neg (fun h => hrest h.1)])
               clear hrest
               obtain ⟨e0, e1, e2, e3, e4⟩ := EC.out W9 (Only.refl _ _)
               have hle := lt_of_cell e0
               have hne : eb ≠ rb := NRE.out
               go_region
               all_goals
                 go_wp2_with fail
                 refine bodyPost_ret (v := .tuple #[.agg #[.int .i64 ((k : Int) + 1), .int .i64 v0, .int .i64 v1, .int .i64 v2, .int .i64 v3], .bool false]) (by simp [results, Tryz.results34, go_sem, r0, r1, r2, r3, r4]) rfl ?_
                 exact ko (((((ahu.out.drew.setCell (.inr (Nat.le_of_eq dN.out.symm)) _).setCell (.inr (Nat.le_of_eq dN.out.symm)) _).setCell (.inr (Nat.le_of_eq dN.out.symm)) _).setCell (.inr (Nat.le_of_eq dN.out.symm)) _).setCell (.inr (Nat.le_of_eq dN.out.symm)) _) FIN.out ⟨(k : Int) + 1, v0, v1, v2, v3⟩
     · have hNe : (wk.toList == w0.toList) = false := by
         cases h : (wk.toList == w0.toList) with
         | false => rfl
         | true => exact absurd (Go.WideShapes.bytes_inj (by rw [← Lib.toList_data, ← Lib.toList_data]; exact beq_iff_eq.1 h)) hE
       have NK : Hid (gV k ≠ w0) := Lib.hid (by rw [show gV k = wk from HK.out.symm]; exact hE)
       clear hE
       go_quiet (fail)
       go_wp2_with fail
       go_roundw
       case rel => exact ⟨k + 1, by go_num, by omega, fun j hj => by
         by_cases e : j = k
         · subst e; exact NK.out
         · exact NE.out j (by omega), (O3.out.bF J9.out).drewN _⟩
       case measure => simp [intOf]; omega
   · obtain rfl : k = 19 := by omega
     have hR := O3.out.keep R2.out (by simp)
     have r0 := aa hR 0
     have r1 := aa hR 1
     have r2 := aa hR 2
     have r3 := aa hR 3
     have r4 := aa hR 4
     simp at r0 r1 r2 r3 r4
     have f0 := ay hR 0
     have f1 := ay hR 1
     have f2 := ay hR 2
     have f3 := ay hR 3
     have f4 := ay hR 4
     have hlr := aK hR
     clear hR
     go_wp2_with fail
     refine bodyPost_ret (v := .tuple #[.agg #[.int .i64 0, .int .i64 0, .int .i64 0, .int .i64 0, .int .i64 0], .bool false]) (by simp [results, Tryz.results34, go_sem, r0, r1, r2, r3, r4]) rfl ?_
     exact ko (((((((O2.out.bF O3.out).setCell (.inr (Nat.le_of_eq dN.out.symm)) _).setCell (.inr (Nat.le_of_eq dN.out.symm)) _).setCell (.inr (Nat.le_of_eq dN.out.symm)) _).setCell (.inr (Nat.le_of_eq dN.out.symm)) _).setCell (.inr (Nat.le_of_eq dN.out.symm)) _)) (by rw [RD.out, Uq.out, RQ 19 (by omega) (fun j _ h2 => NE.out j h2)]) cB.zero
end
section
open Go.RowKit
def iB : Nat → List UInt8 → List cB → Int → List cB × Int × Int
 | 0, _, out, _ => (out, 0, 0)
 | f + 1, tx, out, n =>
   if tx = [] then (out, 0, 0) else
   if (Lib.cut tx [10]).2.2 = true then match eD ⟨(Lib.cut tx [10]).1.toArray⟩ with
     | none => ([], n, 4)
     | some e => if out.length = 65536 then ([], n, 2) else iB f (Lib.cut tx [10]).2.1 (out ++ [e]) (n + 1)
   else ([], n, 4)
theorem lW (f : Nat) (tx : List UInt8) (out : List cB) (n : Int) : iB (f + 1) tx out n = if tx = [] then (out, 0, 0) else
   if (Lib.cut tx [10]).2.2 = true then match eD ⟨(Lib.cut tx [10]).1.toArray⟩ with
     | none => ([], n, 4)
     | some e => if out.length = 65536 then ([], n, 2) else iB f (Lib.cut tx [10]).2.1 (out ++ [e]) (n + 1)
   else ([], n, 4) := rfl
def iZ (tx : List UInt8) : List cB × Int × Int := if 4194304 < tx.length then ([], 0, 2) else iB (tx.length + 1) tx [] 1
theorem agA {tx : List UInt8} (h : (Lib.cut tx [10]).2.2 = true) : (Lib.cut tx [10]).2.1.length < tx.length ∧ (Lib.cut tx [10]).1.length ≤ tx.length := by
 unfold Lib.cut at h ⊢
 split
 · rename_i hi
   simp only [List.length_drop, List.length_take, List.length_cons, List.length_nil]
   cases tx with
   | nil => exact absurd hi (by decide)
   | cons a l => simp only [List.length_cons]; omega
 · rename_i hi
   rw [if_neg hi] at h
   cases h
theorem acK (tx : List UInt8) : (Lib.cut tx [10]).1.length ≤ tx.length := by
 unfold Lib.cut
 split
 · simp only [List.length_take]; omega
 · exact Nat.le_refl _
def mq (l : List cB) : List Value := l.flatMap fun e => [.int .i64 e.kind, .int .i64 e.worker, .int .i64 e.task, .int .i64 e.other, .int .i64 e.level]
theorem Fh (l : List cB) (e : cB) : mq (l ++ [e]) = mq l ++ [.int .i64 e.kind, .int .i64 e.worker, .int .i64 e.task, .int .i64 e.other, .int .i64 e.level] := by simp [mq]
theorem adX (l : List cB) : ∀ i, i < l.length → (mq l)[i * 5]? = some (.int .i64 (l.getD i cB.zero).kind) ∧ (mq l)[i * 5 + 1]? = some (.int .i64 (l.getD i cB.zero).worker) ∧ (mq l)[i * 5 + 2]? = some (.int .i64 (l.getD i cB.zero).task) ∧ (mq l)[i * 5 + 3]? = some (.int .i64 (l.getD i cB.zero).other) ∧ (mq l)[i * 5 + 4]? = some (.int .i64 (l.getD i cB.zero).level) := by
 induction l with
 | nil => intro i h; simp at h
 | cons a l ih =>
   intro i h
   cases i with
   | zero => exact ⟨rfl, rfl, rfl, rfl, rfl⟩
   | succ i =>
     obtain ⟨h0, h1, h2, h3, h4⟩ := ih i (by simpa using h)
     have e : ∀ j, (mq (a :: l))[(i + 1) * 5 + j]? = (mq l)[i * 5 + j]? := fun j => by
       rw [show (i + 1) * 5 + j = (i * 5 + j) + 5 by omega]; rfl
     have e0 := e 0
     simp only [Nat.add_zero] at e0
     rw [e0, e 1, e 2, e 3, e 4]
     exact ⟨h0, h1, h2, h3, h4⟩
theorem Ut {w : World} {B : Nat} {T : TypeId} {v : Value} {l : List cB} (h : w.ownsRow B T 5 v l.length (mq l)) : EL w v l := by
 obtain ⟨hl, ⟨rfl, h0⟩ | ⟨g, cap, cur, rfl, hb, hh, hn, hm, hs, ht⟩⟩ := h
 · exact ⟨none, 0, by rw [h0], by omega, fun h => by omega⟩
 · refine ⟨_, cap, rfl, hn, fun _ => ⟨g, 0, rfl, fun i hi => ?_⟩⟩
   have at' : ∀ j v, (mq l)[j]? = some v → w.cell? ⟨g, j, none⟩ = some v := fun j v hj => by
     rw [aa hh]
     rw [← ht, List.getElem?_take] at hj
     split at hj
     · simpa using hj
     · cases hj
   obtain ⟨h0, h1, h2, h3, h4⟩ := adX l i hi
   rw [Nat.zero_add]
   exact ⟨at' _ _ h0, at' _ _ h1, at' _ _ h2, at' _ _ h3, at' _ _ h4⟩
end
end Go.Proofs.YtncnepmgmphanaaGreatDoor
