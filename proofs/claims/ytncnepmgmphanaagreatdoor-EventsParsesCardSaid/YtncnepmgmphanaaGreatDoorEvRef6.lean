/- The reference's event of a line (printed by gen_evref6.py). No condition beside those named. -/
import Derived.Test.YtncnepmgmphanaaGreatDoorMg28
import Derived.Deep.RegionHeld3
import Derived.Deep.DeepCutAuto
import Derived.BigQuiet
set_option linter.unusedVariables false
set_option linter.unusedSimpArgs false
set_option linter.unusedSectionVars false
namespace Go.Proofs.YtncnepmgmphanaaGreatDoor
open Go.RowKit
theorem agS : (Tryz.prog.info? 3).map (fun i => (i.zero, i.size, i.bytes)) = some (some (.int .i64 0), 1, 8) := by kernel_rfl
theorem Zh {w : World} {B : Nat} {v : Value} {ns : List Int} (h : w.ownsRow B 3 1 v ns.length (ns.map (Value.int .i64))) (hp : 0 < ns.length) : ∃ g cap, v = .slice (some ⟨g, 0, none⟩) ns.length cap ∧ ∀ k, k < ns.length → w.cell? ⟨g, k, none⟩ = some (.int .i64 (ns.getD k 0)) := by
 rcases h.2 with ⟨_, h0⟩ | ⟨g, cap, cur, hv, hb, hh, hn, hm, hs, ht⟩
 · omega
 · refine ⟨g, cap, hv, fun k hk => ?_⟩
   rw [aa hh]
   have h2 : (ns.map (Value.int .i64))[k]? = some (.int .i64 (ns.getD k 0)) := by
     rw [List.getElem?_map, List.getD_eq_getElem?_getD, List.getElem?_eq_getElem hk]
     rfl
   rw [← ht, List.getElem?_take] at h2
   split at h2
   · simpa using h2
   · cases h2
theorem aaf {ws : List ByteArray} {ns : List Int} {v : Int} (h : ((ws.map (·.data.toList)).tail.take ns.length) = ns.map Lib.itoa) (hi : ns.length + 1 < ws.length) (hv : (ws.getD (ns.length + 1) ByteArray.empty).data.toList = Lib.itoa v) : ((ws.map (·.data.toList)).tail.take (ns.length + 1)) = (ns ++ [v]).map Lib.itoa := by
 rw [List.take_succ_eq_append_getElem (by simp; omega), h, List.map_append]
 congr 1
 simp only [List.map_cons, List.map_nil, List.cons.injEq, and_true]
 rw [← hv, List.getElem_tail, List.getElem_map, List.getD_eq_getElem?_getD, List.getElem?_eq_getElem hi]
 rfl
theorem LK {e : cB} {s : ByteArray} : ((bs (jd e)).toList == (s ++ ⟨#[10]⟩).toList) = decide (l9 e = s.data.toList) := by
 rw [Lib.toList_data, Lib.toList_data, Vm]
 have e1 : (s ++ ⟨#[10]⟩ : ByteArray).data.toList = s.data.toList ++ [10] := by simp
 have e2 : (bs (l9 e ++ [10])).data.toList = l9 e ++ [10] := by simp [bs]
 rw [e1, e2]
 by_cases h : l9 e = s.data.toList
 · rw [h]; simp
 · have : ¬ (l9 e ++ [10] = s.data.toList ++ [10]) := fun e' => h (List.append_inj' e' rfl).1
   simp [h]
set_option maxRecDepth 100000 in
set_option maxHeartbeats 8000000 in
theorem KI (w : World) (s : ByteArray) (hs : s.size ≤ 4194304) : Calls Tryz.prog 35 #[.string s] w (Eg s w) := by
 obtain ⟨i0, hi0, hz0, hz1, hz2⟩ := info_parts agS
 obtain ⟨ws, hws⟩ : ∃ ws, ws = dA s := ⟨_, rfl⟩
 have hpos : 0 < ws.length := by rw [hws]; exact lX s
 obtain ⟨rb, hrb⟩ : ∃ rb, rb = w.heap.size := ⟨_, rfl⟩
 have dN := Lib.hid hrb
 obtain ⟨W0, hW0⟩ : ∃ W0, W0 = w.alloc (.cells #[.int .i64 0, .int .i64 0, .int .i64 0, .int .i64 0, .int .i64 0] 27) := ⟨_, rfl⟩
 have HW0 := Lib.hid hW0
 have O0 : Hid (Only [] w W0) := Lib.hid (by rw [hW0]; exact (Only.refl _ _).alloc _)
 have R0 : Hid (W0.heap[rb]? = some (.cells #[.int .i64 0, .int .i64 0, .int .i64 0, .int .i64 0, .int .i64 0] 27 (0, 0))) := Lib.hid (by rw [hW0, hrb]; exact blk_alloc_new w _)
 have WD := ab9 W0 s hs
 rw [← hws] at WD
 have WDH := Lib.hid WD
 have WL : Hid (ws.length ≤ 4194305) := Lib.hid (by
   have := (MM s).1
   rw [← hws] at this
   have h2 := wM ws (by intro e; rw [e] at hpos; exact absurd hpos (by simp))
   have h3 := congrArg List.length h2
   rw [List.length_append, ← this, ← Lib.size_eq] at h3
   have h4 : ws.length ≤ (lF ws).length := by
     clear h2 h3 this hpos WD WDH hws
     induction ws with
     | nil => simp
     | cons a l ih => simp [lF] at ih ⊢; omega
   simp at h3
   omega)
 have NOW := Lib.hid (fun (i : Nat) (h1 : 1 ≤ i) (h2 : i < ws.length) (h : ni (ws.getD i ByteArray.empty).data.toList = none) => show eD s = none from Vo (s := s) h1 (by rw [← hws]; exact h2) (by rw [← hws]; exact h))
 have NOF := Lib.hid (fun (ns : List Int) (h1 : (ws.map (·.data.toList)).tail = ns.map Lib.itoa) (h : ∀ j, j < 19 → gV j ≠ ws.getD 0 ByteArray.empty ∨ ns = []) => show eD s = none from Q4 (s := s) (by rw [← hws]; exact h1) (by rw [← hws]; exact h))
 have YES := Lib.hid (fun (ns : List Int) (k : Nat) (hk : k < 19) (hp : 0 < ns.length) (uI : ∀ n ∈ ns, 0 ≤ n ∧ n ≤ 256) (h1 : (ws.map (·.data.toList)).tail = ns.map Lib.itoa) (h : gV k = ws.getD 0 ByteArray.empty) => YL (s := s) hk hp uI (by rw [← hws]; exact h1) (by rw [← hws]; exact h))
 obtain ⟨n, hn⟩ : ∃ n, n = ws.length := ⟨_, rfl⟩
 have HN := Lib.hid hn
 rw [← hn] at hpos WL
 have hn2 : n ≤ 4194305 := WL.out
 have nS : ¬ (9223372036854775807 < s.size + 1) := by omega
 clear hws hrb hW0 WD WL hn hs
 go_enter Tryz.func35, Tryz.ntmps35
 go_wp2_with fail
 rw [← dN.out, ← HW0.out]
 refine WDH.out.mono ?_; rintro e w1 ⟨wb, cw, rfl, hwc, o1⟩
 rw [← HN.out] at hwc ⊢
 have WC1 := Lib.hid hwc
 have O1 := Lib.hid (O0.out.bF o1)
 have R1 := Lib.hid (o1.keep R0.out (by simp))
 clear hwc o1 WDH
 go_wp2_with fail
 go_loopw [5, 6] (fun s5 s6 wr => ∃ (ns : List Int) (i : Nat) (ao : Option Addr) (cap : Nat), s5 = .slice ao ns.length cap ∧ s6 = .int .i64 i ∧ i = ns.length + 1 ∧ i ≤ n ∧ wr.ownsRow w1.heap.size 3 1 (.slice ao ns.length cap) ns.length (ns.map (.int .i64)) ∧ ((∀ x ∈ ns, 0 ≤ x ∧ x ≤ 256) ∧ ((ws.map (·.data.toList)).tail.take ns.length) = ns.map Lib.itoa) ∧ Only [] w1 wr) (fun _ r _ => n - (intOf r).toNat)
 case atStart => exact ⟨[], 1, none, 0, rfl, rfl, rfl, hpos, World.ownsRow_nil _ _ _ _, ⟨by simp, by simp⟩, Only.refl _ _⟩
 case round =>
   obtain ⟨ns, i, ao, cap, rfl, rfl, hi, hin, hown, hJ, ho⟩ := hrel
   obtain ⟨w3, hw3⟩ : ∃ w3, w3 = wr := ⟨_, rfl⟩
   subst hw3
   have OWN := Lib.hid hown
   have HJ := Lib.hid hJ
   have O3 := Lib.hid ho
   have R3 := Lib.hid (ho.keep R1.out (by simp))
   clear hown hJ ho
   obtain ⟨m, hm⟩ : ∃ m, m = ns.length := ⟨_, rfl⟩
   have HM := Lib.hid hm
   rw [← hm] at OWN hi ⊢
   clear hm
   subst hi
   by_cases hlt : m + 1 < n
   · have hlt' : (m : Int) + 1 < (n : Int) := by omega
     have aer : (0 : Int) ≤ (m : Int) + 1 := by omega
     have c0 := O3.out.keepCell (WC1.out (m + 1) hlt) (by simp)
     have hwl := lt_of_cell c0
     obtain ⟨x, hx⟩ : ∃ x, x = ws.getD (m + 1) ByteArray.empty := ⟨_, rfl⟩
     rw [← hx] at c0
     have HX := Lib.hid hx
     clear hx
     go_wp2_with fail
     refine (Vi w3 x).mono ?_
     rintro e w4 ⟨v, ok, rfl, h1, h2, o4⟩
     have H1 := Lib.hid h1
     have H2 := Lib.hid h2
     have O4 := Lib.hid (O3.out.bF o4)
     have R4 := Lib.hid (o4.keep R3.out (by simp))
     have Vy := Lib.hid (oI OWN.out o4)
     clear h1 h2 o4 c0 hwl
     cases ok with
     | false =>
       have hR := R4.out
       have r0 := aa hR 0
       have r1 := aa hR 1
       have r2 := aa hR 2
       have r3 := aa hR 3
       have r4 := aa hR 4
       simp at r0 r1 r2 r3 r4
       have f0 := ay hR 0
       have f1 := ay hR 1
       have f2 := ay hR 2
       have f3 := ay hR 3
       have f4 := ay hR 4
       have hlr := aK hR
       clear hR
       go_wp2_with fail
       refine bodyPost_ret (v := .tuple #[.agg #[.int .i64 0, .int .i64 0, .int .i64 0, .int .i64 0, .int .i64 0], .bool false]) (by simp [results, Tryz.results35, go_sem, r0, r1, r2, r3, r4]) rfl ?_
       exact ko ((((((O1.out.bF O4.out).setCell (.inr (Nat.le_of_eq dN.out.symm)) _).setCell (.inr (Nat.le_of_eq dN.out.symm)) _).setCell (.inr (Nat.le_of_eq dN.out.symm)) _).setCell (.inr (Nat.le_of_eq dN.out.symm)) _).setCell (.inr (Nat.le_of_eq dN.out.symm)) _) (NOW.out (m + 1) (by omega) (by rw [← HN.out]; exact hlt) (by rw [← HX.out]; exact H2.out (by first | rfl | trivial))) cB.zero
     | true =>
       have aec := acP (H1.out rfl).1
       have hv0 := (H1.out rfl).2
       have hv1 : v ≤ 256 := by have := aec.2; omega
       have NX := Lib.hid (show (∀ y ∈ ns ++ [v], 0 ≤ y ∧ y ≤ 256) ∧ ((ws.map (·.data.toList)).tail.take (ns.length + 1)) = (ns ++ [v]).map Lib.itoa from ⟨fun y hy => by
         rcases List.mem_append.1 hy with h | h
         · exact HJ.out.1 y h
         · rw [List.mem_singleton.1 h]; exact ⟨hv0, hv1⟩, aaf HJ.out.2 (by rw [← HM.out, ← HN.out]; exact hlt) (by
           have h := aec.1
           rw [show ((v.toNat : Nat) : Int) = v by omega, HX.out] at h
           rw [← HM.out]
           exact h)⟩)
       have zG := Lib.hid (vI (w := w4.alloc (.cells #[.int .i64 v] 3)) (b := w4.heap.size) (l := [.int .i64 v]) (T := 3) (f := (0, 0)) (blk_alloc_new _ _))
       have hsz := O4.out.size
       have hm3 : m ≤ 4194305 := by omega
       clear aec hv0 hv1
       go_wp2_with (at_builtin; refine wpList_append_own _ rfl _ _ 29 rfl w1.heap.size 3 i0 (.int .i64 0) 1 8 Tryz.underlying29 hi0 hz0 hz1 hz2 rfl (by decide) _ _ _ rfl (Vy.out.alloc _) ⟨w4.heap.size, 0, none⟩ 1 1 [.int .i64 v] rfl rfl zG.out (by simp [Value.oneCell']) (by unfold maxLen; omega) (by omega) (by first | omega | (simp; omega)) ?_)
       intro v' w7 hown' hgrow _
       obtain ⟨oQ, jb, hv7⟩ : ∃ oQ jb, v' = .slice oQ (m + 1) jb := by
         rcases hown'.2 with ⟨_, h0⟩ | ⟨g, jb, cur, hv, _⟩
         · omega
         · exact ⟨_, _, hv⟩
       rw [hv7] at hown' ⊢
       clear hv7
       have Fg := Lib.hid hown'
       have O7 : Hid (Only [] w1 w7) := Lib.hid ((O4.out.alloc _).grown hgrow (fun q hq => .inr (Vy.out.lt q hq).1))
       clear hown' hgrow
       go_wp2_with fail
       go_roundw
       case rel => exact ⟨ns ++ [v], m + 1 + 1, oQ, jb, by rw [List.length_append, ← HM.out]; rfl, by go_num, by rw [List.length_append, ← HM.out]; first | rfl | (simp; omega), by omega, by
         rw [List.map_append, List.length_append, ← HM.out]; exact Fg.out, by
         have := NX.out
         rw [List.length_append]
         exact this, O7.out⟩
       case measure => simp [intOf]; omega
   · have hge : ¬ (m : Int) + 1 < (n : Int) := by omega
     have hmn : m + 1 = n := by omega
     have NSE : Hid ((ws.map (·.data.toList)).tail = ns.map Lib.itoa) := Lib.hid (by
       have h := HJ.out.2
       rw [List.take_of_length_le (by rw [List.length_tail, List.length_map, ← HN.out, ← HM.out]; omega)] at h
       exact h)
     have aix := Lib.hid HJ.out.1
     clear HJ
     go_wp2_with fail
     refine (um _).mono ?_; rintro e w4 ⟨b, rfl, hb, hle, o4⟩
     have O4 := Lib.hid ((O1.out.bF O3.out).bF o4)
     have R4 := Lib.hid (o4.keep R3.out (by simp))
     have Vy := Lib.hid (oI OWN.out o4)
     have WC4 := Lib.hid (fun k hk => (O3.out.bF o4).keepCell (WC1.out k hk) (by simp))
     have HB := Lib.hid hb
     clear hb hle o4 hge
     obtain ⟨w0, hw0⟩ : ∃ w0, w0 = ws.getD 0 ByteArray.empty := ⟨_, rfl⟩
     have H0 := Lib.hid hw0
     clear hw0
     go_wp2_with fail
     go_loopw [10] (fun r wr => ∃ k : Nat, r = .int .i64 k ∧ k ≤ 19 ∧ (∀ j, j < k → gV j ≠ w0 ∨ ns = []) ∧ Only [] w4 wr) (fun r _ => 19 - (intOf r).toNat)
     case atStart => exact ⟨0, rfl, by omega, fun j hj => by omega, Only.refl _ _⟩
     case round =>
       obtain ⟨k, rfl, hk, hne, ho⟩ := hrel
       obtain ⟨w5, dZ⟩ : ∃ w5, w5 = wr := ⟨_, rfl⟩
       subst dZ
       have NE := Lib.hid hne
       have O5 := Lib.hid ho
       have R5 := Lib.hid (ho.keep R4.out (by simp))
       clear hne ho
       by_cases qo : k < 19
       · have hk1 : (0 : Int) ≤ (k : Int) := by omega
         have hk2 : (k : Int) < 19 := by omega
         have hn1 : (0 : Int) < (n : Int) := by omega
         obtain ⟨d0, d1, d2, d3, d4⟩ := ma (O5.out.keep HB.out (by simp)) qo
         have c0 := O5.out.keepCell (WC4.out 0 hpos) (by simp)
         rw [← H0.out] at c0
         have hwl := lt_of_cell c0
         have hbl := lt_of_cell d0
         obtain ⟨wk, hwk⟩ : ∃ wk : ByteArray, wk = ⟨(aI k).word.toArray⟩ := ⟨_, rfl⟩
         rw [← hwk] at d1
         have HK := Lib.hid (show gV k = wk from hwk.symm)
         clear hwk
         obtain ⟨ft, hft⟩ : ∃ ft, ft = (aI k).t := ⟨_, rfl⟩
         obtain ⟨fo, hfo⟩ : ∃ fo, fo = (aI k).o := ⟨_, rfl⟩
         obtain ⟨fl, hfl⟩ : ∃ fl, fl = (aI k).l := ⟨_, rfl⟩
         rw [← hft] at d2
         rw [← hfo] at d3
         rw [← hfl] at d4
         have HF := Lib.hid (And.intro hft (And.intro hfo hfl))
         clear hft hfo hfl
         go_upto_region 15 with fail
         obtain ⟨W4, rG⟩ : ∃ W4, W4 = w5.alloc (.cells #[.int .i64 ((k : Int) + 1), .string wk, .bool ft, .bool fo, .bool fl] 106) := ⟨_, rfl⟩
         rw [← rG]
         obtain ⟨fb, dO⟩ : ∃ fb, fb = w5.heap.size := ⟨_, rfl⟩
         rw [← dO]
         have FB := Lib.hid (show W4.heap[fb]? = some (.cells #[.int .i64 ((k : Int) + 1), .string wk, .bool ft, .bool fo, .bool fl] 106 (0, 0)) from by rw [rG, dO]; exact blk_alloc_new _ _)
         have O45 := Lib.hid (show Only [] w4 W4 from by rw [rG]; exact O5.out.alloc _)
         have R6 := Lib.hid (show W4.heap[rb]? = some (.cells #[.int .i64 0, .int .i64 0, .int .i64 0, .int .i64 0, .int .i64 0] 27 (0, 0)) from by rw [rG, cO (aK R5.out)]; exact R5.out)
         have alc := Lib.hid (oI Vy.out O45.out)
         have g1 := aa FB.out 1
         simp at g1
         have c4 := (show Only [] w5 W4 from by rw [rG]; exact (Only.refl _ _).alloc _).keepCell c0 (by simp)
         clear rG dO d0 d1 d2 d3 d4 c0 hwl hbl
         by_cases hE : wk = w0
         · have hEq : (wk.toList == w0.toList) = true := by rw [hE]; simp
           have hNq : (wk.toList != w0.toList) = false := by rw [hE]; simp
           have KW := Lib.hid (show gV k = ws.getD 0 ByteArray.empty from by rw [HK.out, hE, H0.out])
           by_cases hm0 : m = 0
           · subst hm0
             have NN := Lib.hid (show ns = [] from List.eq_nil_of_length_eq_zero HM.out.symm)
             go_quiet (fail)
             go_wp2_with fail
             go_roundw
             case rel => exact ⟨k + 1, by go_num, by omega, fun j hj => .inr NN.out, O45.out.drewN _⟩
             case measure => simp [intOf]; omega
           · have hmp : 0 < m := by omega
             obtain ⟨g, cg, hv, hg⟩ := Zh (ns := ns) (v := .slice ao m cap) (by rw [← HM.out]; exact alc.out) (by rw [← HM.out]; exact hmp)
             obtain ⟨rfl, -, rfl⟩ : ao = some ⟨g, 0, none⟩ ∧ m = ns.length ∧ cap = cg := by
               injection hv with h1 h2 h3
               exact ⟨h1, h2, h3⟩
             rw [← HM.out] at hg
             have hmi : (0 : Int) < (m : Int) := by omega
             have hmz : ((m : Int) == 0) = false := by simp; omega
             have NC := Lib.hid (fun w' (o : Only [] W4 w') j (hj : j < m) => o.keepCell (hg j hj) (by simp))
             clear hv hg
             go_quiet (fail)
             clear hEq hNq g1 c4
             obtain ⟨w7, hw7⟩ : ∃ w7, w7 = W4.drewN nq := ⟨_, rfl⟩
             rw [← hw7]
             have O7 := Lib.hid (show Only [] W4 w7 from by rw [hw7]; exact (Only.refl _ _).drewN _)
             clear hw7
             go_upto_region 16 with fail
             go_cut [12, 13] (fun s12 s13 wx => ∃ eb, s12 = .pointer (some ⟨eb, 0, none⟩) ∧ s13 = .int .i64 ((1 : Nat) : Int) ∧ wx.heap[eb]? = some (.cells #[.int .i64 ((k : Int) + 1), .int .i64 (ns.getD 0 0), .int .i64 0, .int .i64 0, .int .i64 0] 27 (0, 0)) ∧ W4.heap.size ≤ eb ∧ Only [] W4 wx)
             case first =>
               have p0 := aa (O7.out.keep FB.out (by simp)) 0
               simp at p0
               have q0 := NC.out _ O7.out 0 hmp
               have mo := lt_of_cell q0
               have hpl := lt_of_cell p0
               go_region
               all_goals
                 go_wp2_with fail
                 go_meet
                 exact ⟨_, rfl, rfl, by first | exact blk_alloc_new _ _ | (rw [heap_drew]; exact blk_alloc_new _ _), by first | exact O7.out.size | exact O7.out.drew.size | (have := O7.out.size; simpa using this), by first | exact O7.out.alloc _ | exact (O7.out.alloc _).drew | exact O7.out.drew.alloc _⟩
             case rest =>
               obtain ⟨eb, rfl, rfl, yP, hle, hO⟩ := hcut
               obtain ⟨v0, hv0⟩ : ∃ v0, v0 = wc := ⟨_, rfl⟩
               subst hv0
               have Z5 := Lib.hid yP
               have OE0 := Lib.hid hO
               have LE := Lib.hid hle
               clear yP hO hle
               go_upto_region 17 with fail
               go_cut [72] (fun s72 wx => s72 = .bool (ft && decide (1 < m)) ∧ wx = v0)
               case first =>
                 have p2 := aa (OE0.out.keep FB.out (by simp)) 2
                 simp at p2
                 cases ft with
                 | false =>
                   go_wp2_with fail
                   go_meet
                   exact ⟨rfl, rfl⟩
                 | true =>
                   by_cases hq : 1 < m
                   · have hq' : ((1 : Nat) : Int) < (m : Int) := by omega
                     go_wp2_with fail
                     go_meet
                     exact ⟨congrArg Value.bool (by rw [Bool.true_and]; first | exact decide_eq_decide.2 (by omega) | (simp; omega)), rfl⟩
                   · have hq' : ¬ ((1 : Nat) : Int) < (m : Int) := by omega
                     go_wp2_with fail
                     go_meet
                     exact ⟨congrArg Value.bool (by rw [Bool.true_and]; first | exact decide_eq_decide.2 (by omega) | (simp; omega)), rfl⟩
               case rest =>
                 obtain ⟨rfl, hwx⟩ := hcut
                 have MZ := hwx.symm
                 subst MZ
                 go_upto_if 72 with fail
                 go_cut [13] (fun s13 wx => ∃ (ta : Int) (q1 : Nat), s13 = .int .i64 q1 ∧ gY ft ns 1 = (ta, q1) ∧ wx.heap[eb]? = some (.cells #[.int .i64 ((k : Int) + 1), .int .i64 (ns.getD 0 0), .int .i64 ta, .int .i64 0, .int .i64 0] 27 (0, 0)) ∧ Only [] W4 wx)
                 case first =>
                   cases hc : (ft && decide (1 < m)) with
                   | false =>
                     have FA := Lib.hid (show gY ft ns 1 = (0, 1) from by unfold gY; rw [← HM.out, hc]; rfl)
                     go_wp2_with fail
                     go_meet
                     exact ⟨0, 1, by first | rfl | go_num, FA.out, Z5.out, OE0.out⟩
                   | true =>
                     have FA := Lib.hid (show gY ft ns 1 = (ns.getD 1 0, 1 + 1) from by unfold gY; rw [← HM.out, hc]; rfl)
                     have hq : 1 < m := by simp at hc; exact hc.2
                     have hq' : ((1 : Nat) : Int) < (m : Int) := by omega
                     have hq0 : (0 : Int) ≤ ((1 : Nat) : Int) := by omega
                     have c0 := NC.out _ OE0.out 1 hq
                     have hcl := lt_of_cell c0
                     have e0 := aa Z5.out 2
                     simp at e0
                     have ef := ay Z5.out 2
                     have hel := aK Z5.out
                     have ES := Lib.hid (show (v0.setCell ⟨eb, 2, none⟩ (.int .i64 (ns.getD 1 0))).heap[eb]? = some (.cells #[.int .i64 ((k : Int) + 1), .int .i64 (ns.getD 0 0), .int .i64 (ns.getD 1 0), .int .i64 0, .int .i64 0] 27 (0, 0)) from by rw [aR Z5.out]; rfl)
                     have EO := Lib.hid (show Only [] W4 (v0.setCell ⟨eb, 2, none⟩ (.int .i64 (ns.getD 1 0))) from OE0.out.setCell (.inr LE.out) _)
                     go_wp2_with fail
                     go_meet
                     exact ⟨ns.getD 1 0, 1 + 1, by first | rfl | go_num, FA.out, ES.out, EO.out⟩
                 case rest =>
                   obtain ⟨ta, q1, rfl, hfa, yP, hO⟩ := hcut
                   obtain ⟨v1, hv1⟩ : ∃ v1, v1 = wc := ⟨_, rfl⟩
                   subst hv1
                   have EB1 := Lib.hid yP
                   have OE1 := Lib.hid hO
                   have FA1 := Lib.hid hfa
                   clear yP hO hfa
                   go_upto_region 19 with fail
                   go_cut [87] (fun s87 wx => s87 = .bool (fo && decide (q1 < m)) ∧ wx = v1)
                   case first =>
                     have p2 := aa (OE1.out.keep FB.out (by simp)) 3
                     simp at p2
                     cases fo with
                     | false =>
                       go_wp2_with fail
                       go_meet
                       exact ⟨rfl, rfl⟩
                     | true =>
                       by_cases hq : q1 < m
                       · have hq' : ((q1 : Nat) : Int) < (m : Int) := by omega
                         go_wp2_with fail
                         go_meet
                         exact ⟨congrArg Value.bool (by rw [Bool.true_and]; first | exact decide_eq_decide.2 (by omega) | (simp; omega)), rfl⟩
                       · have hq' : ¬ ((q1 : Nat) : Int) < (m : Int) := by omega
                         go_wp2_with fail
                         go_meet
                         exact ⟨congrArg Value.bool (by rw [Bool.true_and]; first | exact decide_eq_decide.2 (by omega) | (simp; omega)), rfl⟩
                   case rest =>
                     obtain ⟨rfl, hwx⟩ := hcut
                     have MZ := hwx.symm
                     subst MZ
                     go_upto_if 87 with fail
                     go_cut [13] (fun s13 wx => ∃ (oa : Int) (q2 : Nat), s13 = .int .i64 q2 ∧ gY fo ns q1 = (oa, q2) ∧ wx.heap[eb]? = some (.cells #[.int .i64 ((k : Int) + 1), .int .i64 (ns.getD 0 0), .int .i64 ta, .int .i64 oa, .int .i64 0] 27 (0, 0)) ∧ Only [] W4 wx)
                     case first =>
                       cases hc : (fo && decide (q1 < m)) with
                       | false =>
                         have FA := Lib.hid (show gY fo ns q1 = (0, q1) from by unfold gY; rw [← HM.out, hc]; rfl)
                         go_wp2_with fail
                         go_meet
                         exact ⟨0, q1, by first | rfl | go_num, FA.out, EB1.out, OE1.out⟩
                       | true =>
                         have FA := Lib.hid (show gY fo ns q1 = (ns.getD q1 0, q1 + 1) from by unfold gY; rw [← HM.out, hc]; rfl)
                         have hq : q1 < m := by simp at hc; exact hc.2
                         have hq' : ((q1 : Nat) : Int) < (m : Int) := by omega
                         have hq0 : (0 : Int) ≤ ((q1 : Nat) : Int) := by omega
                         have c0 := NC.out _ OE1.out q1 hq
                         have hcl := lt_of_cell c0
                         have e0 := aa EB1.out 3
                         simp at e0
                         have ef := ay EB1.out 3
                         have hel := aK EB1.out
                         have ES := Lib.hid (show (v1.setCell ⟨eb, 3, none⟩ (.int .i64 (ns.getD q1 0))).heap[eb]? = some (.cells #[.int .i64 ((k : Int) + 1), .int .i64 (ns.getD 0 0), .int .i64 ta, .int .i64 (ns.getD q1 0), .int .i64 0] 27 (0, 0)) from by rw [aR EB1.out]; rfl)
                         have EO := Lib.hid (show Only [] W4 (v1.setCell ⟨eb, 3, none⟩ (.int .i64 (ns.getD q1 0))) from OE1.out.setCell (.inr LE.out) _)
                         go_wp2_with fail
                         go_meet
                         exact ⟨ns.getD q1 0, q1 + 1, by first | rfl | go_num, FA.out, ES.out, EO.out⟩
                     case rest =>
                       obtain ⟨oa, q2, rfl, hfa, yP, hO⟩ := hcut
                       obtain ⟨v2, hv2⟩ : ∃ v2, v2 = wc := ⟨_, rfl⟩
                       subst hv2
                       have EB2 := Lib.hid yP
                       have OE2 := Lib.hid hO
                       have FA2 := Lib.hid hfa
                       clear yP hO hfa
                       go_upto_region 21 with fail
                       go_cut [102] (fun akW wx => akW = .bool (fl && decide (q2 < m)) ∧ wx = v2)
                       case first =>
                         have p2 := aa (OE2.out.keep FB.out (by simp)) 4
                         simp at p2
                         cases fl with
                         | false =>
                           go_wp2_with fail
                           go_meet
                           exact ⟨rfl, rfl⟩
                         | true =>
                           by_cases hq : q2 < m
                           · have hq' : ((q2 : Nat) : Int) < (m : Int) := by omega
                             go_wp2_with fail
                             go_meet
                             exact ⟨congrArg Value.bool (by rw [Bool.true_and]; first | exact decide_eq_decide.2 (by omega) | (simp; omega)), rfl⟩
                           · have hq' : ¬ ((q2 : Nat) : Int) < (m : Int) := by omega
                             go_wp2_with fail
                             go_meet
                             exact ⟨congrArg Value.bool (by rw [Bool.true_and]; first | exact decide_eq_decide.2 (by omega) | (simp; omega)), rfl⟩
                       case rest =>
                         obtain ⟨rfl, hwx⟩ := hcut
                         have MZ := hwx.symm
                         subst MZ
                         go_upto_if 102 with fail
                         go_cut [13] (fun s13 wx => ∃ (la : Int) (q3 : Nat), s13 = .int .i64 q3 ∧ gY fl ns q2 = (la, q3) ∧ wx.heap[eb]? = some (.cells #[.int .i64 ((k : Int) + 1), .int .i64 (ns.getD 0 0), .int .i64 ta, .int .i64 oa, .int .i64 la] 27 (0, 0)) ∧ Only [] W4 wx)
                         case first =>
                           cases hc : (fl && decide (q2 < m)) with
                           | false =>
                             have FA := Lib.hid (show gY fl ns q2 = (0, q2) from by unfold gY; rw [← HM.out, hc]; rfl)
                             go_wp2_with fail
                             go_meet
                             exact ⟨0, q2, by first | rfl | go_num, FA.out, EB2.out, OE2.out⟩
                           | true =>
                             have FA := Lib.hid (show gY fl ns q2 = (ns.getD q2 0, q2 + 1) from by unfold gY; rw [← HM.out, hc]; rfl)
                             have hq : q2 < m := by simp at hc; exact hc.2
                             have hq' : ((q2 : Nat) : Int) < (m : Int) := by omega
                             have hq0 : (0 : Int) ≤ ((q2 : Nat) : Int) := by omega
                             have c0 := NC.out _ OE2.out q2 hq
                             have hcl := lt_of_cell c0
                             have e0 := aa EB2.out 4
                             simp at e0
                             have ef := ay EB2.out 4
                             have hel := aK EB2.out
                             have ES := Lib.hid (show (v2.setCell ⟨eb, 4, none⟩ (.int .i64 (ns.getD q2 0))).heap[eb]? = some (.cells #[.int .i64 ((k : Int) + 1), .int .i64 (ns.getD 0 0), .int .i64 ta, .int .i64 oa, .int .i64 (ns.getD q2 0)] 27 (0, 0)) from by rw [aR EB2.out]; rfl)
                             have EO := Lib.hid (show Only [] W4 (v2.setCell ⟨eb, 4, none⟩ (.int .i64 (ns.getD q2 0))) from OE2.out.setCell (.inr LE.out) _)
                             go_wp2_with fail
                             go_meet
                             exact ⟨ns.getD q2 0, q2 + 1, by first | rfl | go_num, FA.out, ES.out, EO.out⟩
                         case rest =>
                           obtain ⟨la, q3, rfl, hfa, yP, hO⟩ := hcut
                           obtain ⟨v3, hv3⟩ : ∃ v3, v3 = wc := ⟨_, rfl⟩
                           subst hv3
                           have EB3 := Lib.hid yP
                           have OE3 := Lib.hid hO
                           have FA3 := Lib.hid hfa
                           clear yP hO hfa
                           obtain ⟨z0, hz0⟩ : ∃ z0, z0 = ns.getD 0 0 := ⟨_, rfl⟩
                           rw [← hz0] at EB3
                           have XE := Lib.hid (show nz k ns = ⟨(k : Int) + 1, z0, ta, oa, la⟩ from by
                             unfold nz
                             rw [← HF.out.1, ← HF.out.2.1, ← HF.out.2.2, FA1.out, FA2.out, FA3.out, ← hz0])
                           have hval : bW ⟨(k : Int) + 1, z0, ta, oa, la⟩ = true := by rw [← XE.out]; exact zm qo (by rw [← HM.out]; exact hmp) aix.out
                           have YE := Lib.hid (YES.out ns k qo (by rw [← HM.out]; exact hmp) aix.out NSE.out KW.out)
                           rw [XE.out] at YE
                           have LN0 := fun w' => Bt w' ⟨(k : Int) + 1, z0, ta, oa, la⟩ hval
                           unfold oU at LN0
                           obtain ⟨I, hI⟩ : ∃ I, I = bs (jd ⟨(k : Int) + 1, z0, ta, oa, la⟩) := ⟨_, rfl⟩
                           rw [← hI] at LN0
                           have HI := Lib.hid hI
                           have LN := Lib.hid LN0
                           clear hz0 hval LN0 hI
                           go_upto_region 23 with fail
                           have OW := Lib.hid (show Only [] w v3 from (O4.out.bF O45.out).bF OE3.out)
                           have RW9 := Lib.hid (OE3.out.keep R6.out (by simp))
                           have NRE : Hid (eb ≠ rb) := Lib.hid (by
                             have h := aK R6.out
                             have := LE.out
                             omega)
                           have EC : Hid (∀ w', Only [] v3 w' → w'.cell? ⟨eb, 0, none⟩ = some (.int .i64 ((k : Int) + 1)) ∧ w'.cell? ⟨eb, 1, none⟩ = some (.int .i64 z0) ∧ w'.cell? ⟨eb, 2, none⟩ = some (.int .i64 ta) ∧ w'.cell? ⟨eb, 3, none⟩ = some (.int .i64 oa) ∧ w'.cell? ⟨eb, 4, none⟩ = some (.int .i64 la)) := Lib.hid (fun w' o' => by
                             have h := o'.keep EB3.out (by simp)
                             exact ⟨aa h 0, aa h 1, aa h 2, aa h 3, aa h 4⟩)
                           have ES : Hid (∀ (w' : World) (a0 a1 a2 a3 a4 : Value), (w'.cell? ⟨eb, 0, none⟩ = some (.int .i64 ((k : Int) + 1)) ∧ w'.cell? ⟨eb, 1, none⟩ = some (.int .i64 z0) ∧ w'.cell? ⟨eb, 2, none⟩ = some (.int .i64 ta) ∧ w'.cell? ⟨eb, 3, none⟩ = some (.int .i64 oa) ∧ w'.cell? ⟨eb, 4, none⟩ = some (.int .i64 la)) →
                               (fun (w' : World) => w'.cell? ⟨eb, 0, none⟩ = some (.int .i64 ((k : Int) + 1)) ∧ w'.cell? ⟨eb, 1, none⟩ = some (.int .i64 z0) ∧ w'.cell? ⟨eb, 2, none⟩ = some (.int .i64 ta) ∧ w'.cell? ⟨eb, 3, none⟩ = some (.int .i64 oa) ∧ w'.cell? ⟨eb, 4, none⟩ = some (.int .i64 la)) (((((w'.setCell ⟨rb, 0, none⟩ a0).setCell ⟨rb, 1, none⟩ a1).setCell ⟨rb, 2, none⟩ a2).setCell ⟨rb, 3, none⟩ a3).setCell ⟨rb, 4, none⟩ a4)) := Lib.hid (by
                             intro w' a0 a1 a2 a3 a4 h
                             simp only [xP NRE.out]
                             exact h)
                           go_region_held3 (fun w' => w'.cell? ⟨eb, 0, none⟩ = some (.int .i64 ((k : Int) + 1)) ∧ w'.cell? ⟨eb, 1, none⟩ = some (.int .i64 z0) ∧ w'.cell? ⟨eb, 2, none⟩ = some (.int .i64 ta) ∧ w'.cell? ⟨eb, 3, none⟩ = some (.int .i64 oa) ∧ w'.cell? ⟨eb, 4, none⟩ = some (.int .i64 la))
                             (first | (with_reducible refine EC.out _ ?_; (repeat (with_reducible refine Only.drew ?_)); (first | with_reducible exact Only.refl _ _ | with_reducible assumption)) | (refine ES.out _ _ _ _ _ _ (EC.out _ ?_); (repeat (with_reducible refine Only.drew ?_)); (first | with_reducible exact Only.refl _ _ | with_reducible assumption)))
                             ((first
                               | (go_at_call 32
                                  refine (LN.out _).mono ?_
                                  rintro e w13 ⟨rfl, o13⟩
                                  have QA : Only [] v3 w13 := Only.bF (by (repeat (with_reducible refine Only.drew ?_)); (first | with_reducible exact Only.refl _ _ | with_reducible assumption)) o13
                                  have hR := QA.keep RW9.out (by simp)
                                  have s0 := aa hR 0
                                  have s1 := aa hR 1
                                  have s2 := aa hR 2
                                  have s3 := aa hR 3
                                  have s4 := aa hR 4
                                  simp at s0 s1 s2 s3 s4
                                  have t0 := ay hR 0
                                  have t1 := ay hR 1
                                  have t2 := ay hR 2
                                  have t3 := ay hR 3
                                  have t4 := ay hR 4
                                  have hlt := aK hR
                                  clear hR o13)))
                           all_goals
                             have OF := Lib.hid (OW.out.bF QA)
                             go_wp2_with fail
                             refine bodyPost_ret (v := .tuple #[.agg #[.int .i64 ((k : Int) + 1), .int .i64 z0, .int .i64 ta, .int .i64 oa, .int .i64 la], .bool (I.toList == (s ++ ⟨#[10]⟩).toList)]) (by simp [results, Tryz.results35, go_sem, s0, s1, s2, s3, s4]) rfl ?_
                             refine ⟨(((((OF.out.setCell (.inr (Nat.le_of_eq dN.out.symm)) _).setCell (.inr (Nat.le_of_eq dN.out.symm)) _).setCell (.inr (Nat.le_of_eq dN.out.symm)) _).setCell (.inr (Nat.le_of_eq dN.out.symm)) _).setCell (.inr (Nat.le_of_eq dN.out.symm)) _), ⟨(k : Int) + 1, z0, ta, oa, la⟩, (I.toList == (s ++ ⟨#[10]⟩).toList), rfl, fun h => ?_, fun h => ?_⟩
                             · rw [HI.out, LK] at h
                               exact YE.out.1 (of_decide_eq_true h)
                             · rw [HI.out, LK] at h
                               exact YE.out.2 (of_decide_eq_false h)
         · have hNe : (wk.toList == w0.toList) = false := by
             cases h : (wk.toList == w0.toList) with
             | false => rfl
             | true => exact absurd (Go.WideShapes.bytes_inj (by rw [← Lib.toList_data, ← Lib.toList_data]; exact beq_iff_eq.1 h)) hE
           have hNq : (wk.toList != w0.toList) = true := by unfold bne; rw [hNe]; rfl
           have NK : Hid (gV k ≠ w0) := Lib.hid (by rw [HK.out]; exact hE)
           clear hE
           go_quiet (fail)
           go_wp2_with fail
           go_roundw
           case rel => exact ⟨k + 1, by go_num, by omega, fun j hj => by
             by_cases e : j = k
             · subst e; exact .inl NK.out
             · exact NE.out j (by omega), O45.out.drewN _⟩
           case measure => simp [intOf]; omega
       · obtain rfl : k = 19 := by omega
         have hR := R5.out
         have r0 := aa hR 0
         have r1 := aa hR 1
         have r2 := aa hR 2
         have r3 := aa hR 3
         have r4 := aa hR 4
         simp at r0 r1 r2 r3 r4
         have f0 := ay hR 0
         have f1 := ay hR 1
         have f2 := ay hR 2
         have f3 := ay hR 3
         have f4 := ay hR 4
         have hlr := aK hR
         clear hR
         go_wp2_with fail
         refine bodyPost_ret (v := .tuple #[.agg #[.int .i64 0, .int .i64 0, .int .i64 0, .int .i64 0, .int .i64 0], .bool false]) (by simp [results, Tryz.results35, go_sem, r0, r1, r2, r3, r4]) rfl ?_
         exact ko ((((((O4.out.bF O5.out).setCell (.inr (Nat.le_of_eq dN.out.symm)) _).setCell (.inr (Nat.le_of_eq dN.out.symm)) _).setCell (.inr (Nat.le_of_eq dN.out.symm)) _).setCell (.inr (Nat.le_of_eq dN.out.symm)) _).setCell (.inr (Nat.le_of_eq dN.out.symm)) _) (NOF.out ns NSE.out (by rw [← H0.out]; exact NE.out)) cB.zero
end Go.Proofs.YtncnepmgmphanaaGreatDoor
