/- The events of a script: the laws' history returns. No condition beside those named. -/
import Derived.Test.YtncnepmgmphanaaGreatDoorTcDec
import Derived.Test.YtncnepmgmphanaaGreatDoorMg20
import Derived.Test.YtncnepmgmphanaaGreatDoorTcEngNew
import Derived.Test.YtncnepmgmphanaaGreatDoorMg01
import Derived.Deep.RegionHeld3
set_option linter.unusedVariables false
set_option linter.unusedSimpArgs false
set_option linter.unusedSectionVars false
namespace Go.Proofs.YtncnepmgmphanaaGreatDoor
section
open Go.RowKit
variable {B N : Nat}
theorem GX.re {dG w w' : World} {sh : Sh} {B T rb N xb : Nat} (h : GX dG sh B T rb N w xb) (hw : WT kd.sig B N w') (g : Eff (fun _ _ _ => False) w w') : GX w' sh B T rb N w' xb := by
 obtain ⟨sb, lb, k, kc, bN, cu, dx, st, l0, l1, l2, l3, h, ev, he1, he2⟩ := h
 letI : Inhabited cK := bY sb
 have h' := h.mO (Nat.le_refl _) hw g
 exact ⟨sb, lb, k, kc, bN, cu, dx, st, l0, l1, l2, l3, { h' with keep := Eff.refl _ _ }, ev, g.cell he1 fun _ h => h, he2⟩
theorem GX.wt {dG w : World} {sh : Sh} {B T rb N xb : Nat} (h : GX dG sh B T rb N w xb) : WT kd.sig B N w := by
 obtain ⟨sb, lb, k, kc, bN, cu, dx, st, l0, l1, l2, l3, h, -⟩ := h
 letI : Inhabited cK := bY sb
 exact h.wt
theorem GX.bw {dG w : World} {sh : Sh} {B T rb N xb : Nat} (h : GX dG sh B T rb N w xb) : B ≤ w.heap.size := by
 obtain ⟨sb, lb, k, kc, bN, cu, dx, st, l0, l1, l2, l3, h, -⟩ := h
 letI : Inhabited cK := bY sb
 exact h.bw
theorem GX.evs {dG w : World} {sh : Sh} {B T rb N xb : Nat} (h : GX dG sh B T rb N w xb) : ∃ pe v, w.cell? ⟨xb, 0, none⟩ = some (.pointer (some ⟨pe, 0, none⟩)) ∧ w.cell? ⟨pe, 20, none⟩ = some v ∧ aU w B N (.sl 27 5) v := by
 obtain ⟨sb, lb, k, kc, bN, cu, dx, st, l0, l1, l2, l3, h, -⟩ := h
 letI : Inhabited cK := bY sb
 have c0 : w.cell? ⟨xb, 0, none⟩ = some (.pointer (some ⟨sh.pe, 0, none⟩)) := by rw [aa h.ed]; rfl
 obtain ⟨c, h1, h2, h3⟩ := h.ee.blk
 have h3' : 21 ≤ c.size := by rw [uT] at h3; omega
 obtain ⟨v, hv, ho⟩ := bZ h.wt kEv h1 h2 (i := 20) (j := 20) (by omega) rfl rfl
 exact ⟨sh.pe, v, c0, hv, ho⟩
theorem ScE.at {w : World} {B0 k n cap : Nat} {ao : Option Addr} (h : ScE w B0 k (.slice ao k cap)) (hn : n ≤ k) : OH w ao n := by
 obtain ⟨f, h1, h2⟩ := h
 rcases Nat.eq_zero_or_pos n with e | hp
 · exact .inl e
 rcases h1 with ⟨e, h0⟩ | ⟨lb, kc, cur, e, g1, g2, g3, g4, g5, g6⟩
 · omega
 · cases e
   refine .inr ⟨lb, cur, rfl, g2, fun i hi => ?_⟩
   obtain ⟨a, b, e, ia, ib⟩ := h2 i (by omega)
   have q0 := g6 i 0 (.int .i64 a) (by omega) (by omega) (by rw [e]; rfl)
   have q1 := g6 i 1 (.int .i64 b) (by omega) (by omega) (by rw [e]; rfl)
   rw [aa g2] at q0 q1
   exact ⟨a, b, q0, q1, ia, ib⟩
theorem DC.out {w0 w : World} {ao : Option Addr} {nb : Nat} (C : DC B N w0 ao nb) (e : Eff (fun k _ _ => w0.heap.size ≤ k) w0 w) : DC B N w ao nb :=
 ⟨Nat.le_trans C.b e.size, C.n1, C.n2, C.bs.keep e, C.nb⟩
set_option maxRecDepth 100000 in
set_option maxHeartbeats 4000000 in
theorem UA (w : World) (ao : Option Addr) (nb cap : Nat) (hw : WT kd.sig B N w) (C : DC B N w ao nb) :
   Calls Tryz.prog 18 #[.slice ao nb cap] w fun e w' => ∃ c : kT, e = .returned (.agg c.cells.toArray) ∧ AB B N w c w' := by
 have HW := Lib.hid (And.intro hw C)
 clear hw C
 obtain ⟨W1, hW1⟩ : ∃ W1, W1 = w.alloc (.cells pJ.toArray 48) := ⟨_, rfl⟩
 obtain ⟨rb, hrb⟩ : ∃ rb, rb = w.heap.size := ⟨_, rfl⟩
 have H1 := Lib.hid (show WT kd.sig B N W1 ∧ Eff (fun _ _ _ => False) w W1 ∧ W1.heap[rb]? = some (.cells pJ.toArray 48 (0, 0)) ∧ DC B N W1 ao nb ∧ w.heap.size ≤ rb from by
   obtain ⟨hw, C⟩ := HW.out
   have e : Eff (fun _ _ _ => False) w W1 := by rw [hW1]; exact Eff.bL _ _ _
   exact ⟨by rw [hW1]; exact hw.alloc kCf (aT.one LZ), e, by rw [hW1, hrb]; exact blk_alloc_new _ _, C.out (e.mono fun _ _ _ _ h => h.elim), by omega⟩)
 go_enter Tryz.func18, Tryz.ntmps18
 go_upto_region 1 with fail
 change Code.wp _ _ _ _ (w.alloc (.cells pJ.toArray 48))
 rw [← hW1, ← hrb]
 clear hW1 hrb
 go_wp2_with fail
 refine (QW W1 ao nb cap H1.out.1 H1.out.2.2.2.1).mono ?_
 rintro e w2 ⟨c, rfl, hD⟩
 have HD := Lib.hid hD
 clear hD
 have RR := Lib.hid (show w2.heap[rb]? = some (.cells pJ.toArray q8 (0, 0)) from HD.out.2.2.blk H1.out.2.2.1 fun _ _ h => h)
 have FH : (Tryz.prog.info? 48).map (·.size) = some c.cells.toArray.size := by
   show (Tryz.prog.info? 48).map (·.size) = some 11
   kernel_rfl
 have TH : w2.there rb 0 c.cells.toArray.size := Gg RR.out (by show 11 ≤ 11; omega)
 have OC : c.cells.toArray.all (·.oneCell') = true := all_oneCell_toArray HD.out.1.all.one
 have FIN := Lib.hid (show AB B N w c (w2.setCells rb 0 c.cells) ∧ (w2.setCells rb 0 c.cells).heap[rb]? = some (.cells c.cells.toArray q8 (0, 0)) from by
   obtain ⟨⟨h1, h2, h3, h4, h5, h6⟩, W2, E2⟩ := HD.out
   have s := (iU w2 rb c.cells).2 _ _ RR.out rfl
   have e1 : Eff (fun k T _ => k = rb ∧ T = q8) w2 (w2.setCells rb 0 c.cells) := Eff.wK c.cells 0 w2 _ (Eff.refl _ _) RR.out fun _ _ => .inl ⟨rfl, rfl⟩
   have W : WT kd.sig B N (w2.setCells rb 0 c.cells) := WT.sets Iy c.cells bK 0 w2 _ W2 RR.out h1 fun j k hj => by
     have hlt : j < bK.length := (List.getElem?_eq_some_iff.1 hj).1
     rw [Nat.zero_add, Nat.mod_eq_of_lt hlt]
     exact hj
   have hb := H1.out.2.2.2.2
   refine ⟨⟨⟨h1.mono e1 (Nat.le_refl _), h2, h3, h4, h5, ?_⟩, W, ?_⟩, s⟩
   · letI : Inhabited cK := bY 0
     exact h6.mono W2 h1.2.2.2.2.2.2.2.2.2.1 (e1.mono fun b T j _ hc => by
       obtain ⟨rfl, rfl⟩ := hc
       have hp : (ae.all fun p => p.1 != q8) = true := by kernel_rfl
       intro hm
       have := List.all_eq_true.1 hp _ hm
       simp at this)
   · exact (((H1.out.2.1.trans E2).mono (oW := fun k _ _ => w.heap.size ≤ k) fun _ _ _ _ h => h.elim).trans (e1.mono fun _ _ _ _ h => by omega)).mono fun k _ _ hk hc => by omega)
 go_wp2_with (with_reducible refine wpList_store_mid rfl 48 (.tmp 2) (.tmp 4) rfl rb 0 c.cells.toArray rfl rfl TH FH OC ?_)
 have RT := FIN.out.2
 refine bodyPost_ret (v := .agg c.cells.toArray) ?_ rfl ?_
 · exact results_cell_row (p := 2) (ty := 48) rfl _ _ rb q8 _ _ _ rfl RT Tryz.underlying48 rfl FH
 · exact ⟨c, rfl, FIN.out.1⟩
set_option maxRecDepth 100000 in
set_option maxHeartbeats 4000000 in
theorem WW (w : World) (c : kT) (hw : WT kd.sig B N w) (hB : B ≤ w.heap.size) (hN : 131072 ≤ N) (wV : N ≤ 68719476736) (hc : qL B N w c) :
   Calls Tryz.prog 17 #[.agg c.cells.toArray] w fun e w' => ∃ xb, e = .returned (.pointer (some ⟨xb, 0, none⟩)) ∧ si B N c w xb w' := by
 obtain ⟨W1, hW1⟩ : ∃ W1, W1 = w.alloc (.cells c.cells.toArray 48) := ⟨_, rfl⟩
 obtain ⟨cb, hcb⟩ : ∃ cb, cb = w.heap.size := ⟨_, rfl⟩
 have H1 := Lib.hid (show WT kd.sig B N W1 ∧ Eff (fun _ _ _ => False) w W1 ∧ W1.heap[cb]? = some (.cells c.cells.toArray 48 (0, 0)) ∧ B ≤ W1.heap.size ∧ qL B N W1 c from by
   have e : Eff (fun _ _ _ => False) w W1 := by rw [hW1]; exact Eff.bL _ _ _
   exact ⟨by rw [hW1]; exact hw.alloc kCf (aT.one hc.all), e, by rw [hW1, hcb]; exact blk_alloc_new _ _, Nat.le_trans hB e.size, hc.keep hw e⟩)
 clear hw hB hc
 go_enter Tryz.func17, Tryz.ntmps17
 unfold kT.cells
 go_upto_region 1 with fail
 change Code.wp _ _ _ _ (w.alloc (.cells c.cells.toArray 48))
 rw [← hW1, ← hcb]
 clear hW1 hcb
 have rg := Lib.hid (show W1.rangeAt cb 0 c.cells from dE H1.out.2.2.1)
 have Fx : (Tryz.prog.info? 48).map (·.size) = some c.cells.length := by
   show (Tryz.prog.info? 48).map (·.size) = some 11
   kernel_rfl
 go_wp2_with (with_reducible refine wpList_load_mid rfl 48 (.tmp 1) rfl cb 0 rfl c.cells _ rg.out rfl rfl Fx ?_)
 refine (SQ (B := B) (N := N) W1 c H1.out.1 H1.out.2.2.2.1 hN wV H1.out.2.2.2.2).mono ?_
 rintro e w2 ⟨xb, rfl, hE⟩
 have HE := Lib.hid (show si B N c w xb w2 from ⟨H1.out.2.1.trans hE.1, Nat.le_trans H1.out.2.1.size hE.2.1, hE.2.2⟩)
 clear hE
 go_wp2_with fail
 refine bodyPost_ret (results_tmp rfl _ _ _) rfl ?_
 exact ⟨xb, rfl, HE.out⟩
set_option maxRecDepth 100000 in
set_option maxHeartbeats 4000000 in
theorem VD (w : World) (ao : Option Addr) (n cap : Nat) (hw : WT kd.sig B N w) (hB : B ≤ w.heap.size) (hbs : BytesAt w ao n) (hn : n ≤ 100000) :
   Calls Tryz.prog 20 #[.slice ao n cap, .int .i64 300] w fun e w' => ∃ Qz n2 cap2, e = .returned (.slice Qz n2 cap2) ∧ n2 ≤ 300 ∧ WT kd.sig B N w' ∧ Eff (fun _ _ _ => False) w w' ∧ OH w' Qz n2 := by
 have HC := Lib.hid (ad1 (B := B) (N := N) w ao n cap hw hB hbs hn)
 clear hw hB hbs
 go_enter Tryz.func20, Tryz.ntmps20
 go_wp2_with fail
 refine HC.out.mono ?_
 rintro e w2 ⟨k, v, rfl, hk, hS⟩
 have HS := Lib.hid hS
 by_cases hgt : 300 < k
 · obtain ⟨f, hF, hf⟩ := hS.en
   rcases hF with ⟨e, h0⟩ | ⟨lb, kc, cur, e, g1, g2, g3, g4⟩
   · omega
   subst e
   clear hf hS g2 g4
   have alf : (300 : Int) < (k : Int) := by omega
   have anq : 300 ≤ kc := by omega
   go_wp2_with fail
   refine bodyPost_ret (results_tmp rfl _ _ _) rfl ?_
   exact ⟨_, 300, _, rfl, Nat.le_refl _, HS.out.wt, HS.out.aS, HS.out.en.at (by omega)⟩
 · obtain ⟨ao3, Oj, rfl⟩ : ∃ ao3 Oj, v = .slice ao3 k Oj := by
     obtain ⟨f, hF, hf⟩ := hS.en
     rcases hF with ⟨e, h0⟩ | ⟨lb, kc, cur, e, -⟩
     · exact ⟨none, 0, by rw [e, h0]⟩
     · exact ⟨_, _, e⟩
   clear hS
   have alf : ¬ (300 : Int) < (k : Int) := by omega
   go_wp2_with fail
   refine bodyPost_ret (results_tmp rfl _ _ _) rfl ?_
   exact ⟨_, k, _, rfl, by omega, HS.out.wt, HS.out.aS, HS.out.en.at (Nat.le_refl _)⟩
set_option maxRecDepth 100000 in
set_option maxHeartbeats 4000000 in
theorem Rl (w : World) (ao sa : Option Addr) (nb cb ns cs : Nat) (hb : BytesAt w ao nb) (hs : BytesAt w sa ns) (hnb : nb ≤ 100000) (hns : ns ≤ 100000) :
   Calls Tryz.prog 8 #[.slice ao nb cb, .slice sa ns cs] w fun e w' => ∃ v N', e = .returned v ∧ N' ≤ 200000 ∧ WT kd.sig w.heap.size N' w' ∧ aU w' w.heap.size N' (.sl 27 5) v ∧ Eff (fun k _ _ => w.heap.size ≤ k) w w' := by
 obtain ⟨B, hB⟩ : ∃ B, B = w.heap.size := ⟨_, rfl⟩
 obtain ⟨N, hN⟩ : ∃ N, N = 131072 := ⟨_, rfl⟩
 rw [← hB]
 have hw : WT kd.sig B N w := fun k c T f L hk hh hL => by
   have := (Array.getElem?_eq_some_iff.1 hh).1
   omega
 have C : DC B N w ao nb := ⟨by omega, by omega, by omega, hb, by omega⟩
 have HC := Lib.hid (UA w ao nb cb hw C)
 have HW := Lib.hid (show B = w.heap.size ∧ N = 131072 ∧ DC B N w sa ns ∧ ns ≤ 100000 from ⟨hB, hN, ⟨by omega, by omega, by omega, hs, by omega⟩, hns⟩)
 clear hb hs hnb hns hw C hB hN
 go_enter Tryz.func8, Tryz.ntmps8
 go_wp2_with fail
 refine HC.out.mono ?_
 rintro e w1 ⟨c, rfl, hD⟩
 have HD := Lib.hid hD
 clear hD HC
 go_wp2_with fail
 refine (WW (B := B) (N := N) w1 c HD.out.2.1 (Nat.le_trans HW.out.2.2.1.b HD.out.2.2.size) HW.out.2.2.1.n1 HW.out.2.2.1.n2 HD.out.1).mono ?_
 rintro e w2 ⟨xb, rfl, hE⟩
 have HE := Lib.hid hE
 clear hE
 go_wp2_with fail
 obtain ⟨E2, hx, pe, m, rs, rb, cr, h19, G2⟩ := HE.out
 have HS2 := Lib.hid (show DC B N w2 sa ns ∧ Eff (fun _ _ _ => False) w w2 from ⟨HW.out.2.2.1.out ((HD.out.2.2.trans E2).mono fun _ _ _ _ h => h.elim), HD.out.2.2.trans E2⟩)
 have HG2 := Lib.hid G2
 have H19 := Lib.hid h19
 clear G2 h19 hx E2
 refine (VD (B := B) (N := N) w2 sa ns cs HG2.out.wt HG2.out.bw HS2.out.1.bs HW.out.2.2.2).mono ?_
 rintro e w3 ⟨Qz, n2, cap2, rfl, hn2, W3, E3, hEn⟩
 have HG3 := Lib.hid (HG2.out.re W3 E3)
 have HS3 := Lib.hid (HS2.out.2.trans E3)
 have HEn := Lib.hid hEn
 clear W3 E3 hEn
 go_wp2_with fail
 refine (aeY (ao := Qz) (n := n2) (cap := cap2) HG3.out H19.out (by have := HW.out.2.1; omega) (by omega) (by have := HW.out.2.1; omega) HEn.out).mono ?_
 rintro e w4 ⟨rfl, hG4⟩
 have HG4 := Lib.hid hG4
 obtain ⟨pe4, v, q0, q20, qv⟩ := hG4.evs
 have HV := Lib.hid qv
 clear hG4 qv
 go_wp2_with fail
 refine bodyPost_ret (results_tmp rfl _ _ _) rfl ?_
 exact ⟨v, _, rfl, by have := HW.out.2.1; omega, HG4.out.wt, HV.out, ((HS3.out.mono (oW := fun k _ _ => B ≤ k) fun _ _ _ _ h => h.elim).trans (HG4.out.keep.mono fun _ _ _ _ h => h.1))⟩
end
section
open Go.RowKit
def MX (e : cB) (f : iN) (k : Nat) : List UInt8 := if jo f k then 32 :: Lib.itoa (gB e k) else []
def jG (e : cB) (f : iN) : Nat → List UInt8
 | 0 => f.word
 | k + 1 => jG e f k ++ MX e f k
def jd (e : cB) : List UInt8 := jG e (aI (e.kind - 1).toNat) 4 ++ [10]
theorem ag6 {u : Nat} (h : u < 1000) : (Lib.decDigits u).length ≤ 3 := by
 rw [Lib.decDigits]
 split
 · simp
 · rw [Lib.decDigits]
   split
   · simp
   · rw [Lib.decDigits]
     split
     · simp
     · omega
theorem qi {x : Int} (h0 : 0 ≤ x) (h1 : x ≤ 256) : (Lib.itoa x).length ≤ 3 := by
 unfold Lib.itoa
 rw [if_neg (by omega)]
 exact ag6 (by omega)
theorem Cj (i : Nat) : (aI i).word.length ≤ 6 := by
 by_cases h : i < 19
 · rcases X8 h with rfl | rfl | rfl | rfl | rfl | rfl | rfl | rfl | rfl | rfl | rfl | rfl | rfl | rfl | rfl | rfl | rfl | rfl | rfl <;> decide
 · have : aI i = ⟨[], false, false, false⟩ := by unfold aI; rw [List.getD_eq_getElem?_getD, List.getElem?_eq_none (by simp [Tw]; omega)]; rfl
   rw [this]; simp
theorem ym (a b : List UInt8) : (⟨a.toArray⟩ : ByteArray) ++ ⟨b.toArray⟩ = ⟨(a ++ b).toArray⟩ := by
 apply ByteArray.ext
 simp
theorem gG (a : List UInt8) : (⟨a.toArray⟩ : ByteArray).size = a.length := by simp [ByteArray.size]
theorem j3 {e : cB} (h : bW e = true) : 1 ≤ e.kind ∧ e.kind ≤ 19 ∧ ∀ k, k < 4 → 0 ≤ gB e k ∧ gB e k ≤ 256 := by
 simp [bW, dI] at h
 refine ⟨by omega, by omega, fun k hk => ?_⟩
 rcases (show k = 0 ∨ k = 1 ∨ k = 2 ∨ k = 3 from by omega) with rfl | rfl | rfl | rfl <;> simp [gB] <;> omega
set_option maxRecDepth 100000 in
set_option maxHeartbeats 4000000 in
theorem aeg (w : World) (hL : jc w) (v : cB) (hv : bW v = true) : Calls Tryz.prog 29 #[oU v] w fun e w' => e = .returned (.string ⟨(jd v).toArray⟩) ∧ Only [] w w' := by
 obtain ⟨hk1, hk2, hfl⟩ := j3 hv
 rcases v with ⟨K, wk, tk, ot, lv⟩
 obtain ⟨i, hi0, hi⟩ : ∃ i : Nat, K = (i : Int) + 1 ∧ i < 19 := ⟨(K - 1).toNat, by simp only at hk1; omega, by simp only at hk2; omega⟩
 subst hi0
 have hii : ((i : Int) + 1 - 1).toNat = i := by omega
 have FL := Lib.hid hfl
 have HL := Lib.hid hL
 obtain ⟨res, hres⟩ : ∃ r, r = jd ⟨(i : Int) + 1, wk, tk, ot, lv⟩ := ⟨_, rfl⟩
 have RES : Hid (res = jG ⟨(i : Int) + 1, wk, tk, ot, lv⟩ (aI i) 4 ++ [10]) := Lib.hid (by rw [hres]; unfold jd; rw [hii])
 rw [← hres]
 have wO := fun w' => Da w' (aI i)
 have OP := fun w' => Fb w' ⟨(i : Int) + 1, wk, tk, ot, lv⟩
 unfold YK at wO
 unfold oU at OP ⊢
 have UF := Lib.hid wO
 have VF := Lib.hid OP
 obtain ⟨bx, hbx⟩ : ∃ bx, bx = w.heap.size := ⟨_, rfl⟩
 have FY := Lib.hid hbx
 obtain ⟨W0, hW0⟩ : ∃ W0, W0 = w.alloc (.cells #[.int .i64 ((i : Int) + 1), .int .i64 wk, .int .i64 tk, .int .i64 ot, .int .i64 lv] 27) := ⟨_, rfl⟩
 have HX := Lib.hid (show W0.heap[bx]? = some (.cells #[.int .i64 ((i : Int) + 1), .int .i64 wk, .int .i64 tk, .int .i64 ot, .int .i64 lv] 27 (0, 0)) from by rw [hW0, hbx]; exact blk_alloc_new w _)
 have O0 : Hid (Only [] w W0) := Lib.hid (by rw [hW0]; exact (Only.refl _ _).alloc _)
 have HW0 := Lib.hid hW0
 have hK0 : ∀ w', Only [] W0 w' → w'.cell? ⟨bx, 0, none⟩ = some (.int .i64 ((i : Int) + 1)) := fun w' o => aa (o.keep HX.out (by simp)) 0
 have KC := Lib.hid hK0
 have hi2 : (i : Int) < 19 := by omega
 have hz1 : (i : Int) + 1 - 1 = i := by omega
 have hz2 : IntKind.i64.wrap (i : Int) = i := IntWalk.i64_in _ (by omega)
 clear hres hii hbx hfl hv hL wO OP hk1 hk2 hK0 hW0
 go_enter Tryz.func29, Tryz.ntmps29
 go_wp2_with fail
 rw [← FY.out, ← HW0.out]
 go_upto_region 1 with fail
 go_cut [3] (fun s3 wx => ∃ fb, s3 = .pointer (some ⟨fb, 0, none⟩) ∧ wx.heap[fb]? = some (.cells #[.string ⟨(aI i).word.toArray⟩, .bool (aI i).t, .bool (aI i).o, .bool (aI i).l] 97 (0, 0)) ∧ Only [] W0 wx)
 case first =>
   refine wp_region_held_drew (S := fun w' => w'.cell? ⟨bx, 0, none⟩ = some (.int .i64 ((i : Int) + 1))) (by kernel_rfl) (KC.out _ (Only.refl _ _).drew) (fun hHeld => ?_)
   obtain ⟨W9, oJ⟩ : ∃ W9, W9 = W0.drew := ⟨_, rfl⟩
   have Q9 : Only [] W0 W9 := by rw [oJ]; exact (Only.refl _ _).drew
   rw [← oJ]
   clear oJ
   --<REG
   refine wpAnyH_take (i := 1) (v := ?_) rfl (by kernel_rfl) (by kernel_rfl) (by kernel_rfl) (fun _ _ _ h => h) (Or.inl ⟨by rfl, ?_⟩) (KC.out _ Q9) ?_
   rotate_left
   · (intro w hSw; (try dsimp only at hSw); go_simp; try with_reducible rfl)
   try simp only [Act.put, sI]
   refine wpAnyH_take (i := 2) (v := ?_) rfl (by kernel_rfl) (by kernel_rfl) (by kernel_rfl) (fun _ _ _ h => h) (Or.inl ⟨by rfl, ?_⟩) (KC.out _ Q9) ?_
   rotate_left
   · (intro w hSw; (try dsimp only at hSw); go_simp; try with_reducible rfl)
   try simp only [Act.put, sI]
   refine wpAnyH_take (i := 3) (v := ?_) rfl (by kernel_rfl) (by kernel_rfl) (by kernel_rfl) (fun _ _ _ h => h) (Or.inl ⟨by rfl, ?_⟩) (KC.out _ Q9) ?_
   rotate_left
   · (intro w hSw; (try dsimp only at hSw); go_simp; try with_reducible rfl)
   try simp only [Act.put, sI]
   refine wpAnyH_ready (rs := [0, 6]) (by kernel_rfl) (by simp) ?_
   refine AllReadyH.cons rfl (fun K hK => ?_) (AllReadyH.cons rfl (fun K hK => ?_) AllReadyH.nil)
   · go_simp
     refine (sO _).mono ?_; rintro e V1 ⟨b, rfl, hb, hle, o⟩
     have Q1 := Only.bF Q9 o
     have hbl := aK hb
     clear o
     refine hK.out _ _ (KC.out _ Q1) (fun hHeld => ?_)
     clear hK K
     try simp only [Act.put, sI]
     refine wpAnyH_take (i := 4) (v := ?_) rfl (by kernel_rfl) (by kernel_rfl) (by kernel_rfl) (fun _ _ _ h => h) (Or.inl ⟨by rfl, ?_⟩) (KC.out _ Q1) ?_
     rotate_left
     · (intro w hSw; (try dsimp only at hSw); go_simp; try with_reducible rfl)
     try simp only [Act.put, sI]
     refine wpAnyH_ready (rs := [5, 6]) (by kernel_rfl) (by simp) ?_
     refine AllReadyH.cons rfl (fun K hK => ?_) (AllReadyH.cons rfl (fun K hK => ?_) AllReadyH.nil)
     · obtain ⟨d0, d1, d2, d3⟩ := mH hb hi
       go_simp
       clear d0 d1 d2 d3
       refine hK.out _ _ (KC.out _ Q1) (fun hHeld => ?_)
       clear hK K
       try simp only [Act.put, sI]
       refine wpAnyH_ready (rs := [6]) (by kernel_rfl) (by simp) ?_
       refine AllReadyH.cons rfl (fun K hK => ?_) AllReadyH.nil
       go_simp
       obtain ⟨V3, hV⟩ : ∃ V, V = V1.alloc (.cells #[.string ⟨#[]⟩, .bool false, .bool false, .bool false] 97) := ⟨_, rfl⟩
       try rw [← hV]
       obtain ⟨fb, dO⟩ : ∃ fb, fb = V1.heap.size := ⟨_, rfl⟩
       try rw [← dO]
       have N3 : V3.heap[fb]? = some (.cells #[.string ⟨#[]⟩, .bool false, .bool false, .bool false] 97 (0, 0)) := by rw [hV, dO]; exact blk_alloc_new _ _
       have Q3 : Only [] W0 V3 := by rw [hV]; exact Only.alloc Q1 _
       have hfw : W0.heap.size ≤ fb := by rw [dO]; exact (Q1).size
       have hb3 : V3.heap[b]? = some (.cells oP.toArray 97 (0, 0)) := by rw [hV, cO (aK hb)]; exact hb
       clear hV dO
       refine hK.out _ _ (KC.out _ Q3) (fun hHeld => ?_)
       clear hK K
       try simp only [Act.put, sI]
       refine wpAnyH_ready (rs := [7]) (by kernel_rfl) (by simp) ?_
       refine AllReadyH.cons rfl (fun K hK => ?_) AllReadyH.nil
       have n0 := aa N3 0
       have n1 := aa N3 1
       have n2 := aa N3 2
       have n3 := aa N3 3
       simp at n0 n1 n2 n3
       have f0 := ay N3 0
       have f1 := ay N3 1
       have f2 := ay N3 2
       have f3 := ay N3 3
       have hfl := aK N3
       go_simp
       clear n0 n1 n2 n3 f0 f1 f2 f3 hfl
       refine hK.out _ _ (KC.out _ (((((Only.setCell Q3 (.inr hfw) _).setCell (.inr hfw) _).setCell (.inr hfw) _).setCell (.inr hfw) _))) (fun hHeld => ?_)
       clear hK K
       try simp only [Act.put, sI]
       refine wpAnyH_done (by kernel_rfl) ?_ _
       clear hHeld
       go_wp2_with fail
       go_meet
       exact ⟨_, rfl, by
         have e := aR (aR (aR (aR N3 0 (.string ⟨(aI i).word.toArray⟩)) 1 (.bool (aI i).t)) 2 (.bool (aI i).o)) 3 (.bool (aI i).l)
         simpa only [List.setIfInBounds_toArray, List.set_cons_zero, List.set_cons_succ] using e, ((((Only.setCell Q3 (.inr hfw) _).setCell (.inr hfw) _).setCell (.inr hfw) _).setCell (.inr hfw) _)⟩
     · go_simp
       obtain ⟨V5, hV⟩ : ∃ V, V = V1.alloc (.cells #[.string ⟨#[]⟩, .bool false, .bool false, .bool false] 97) := ⟨_, rfl⟩
       try rw [← hV]
       obtain ⟨fb, dO⟩ : ∃ fb, fb = V1.heap.size := ⟨_, rfl⟩
       try rw [← dO]
       have N5 : V5.heap[fb]? = some (.cells #[.string ⟨#[]⟩, .bool false, .bool false, .bool false] 97 (0, 0)) := by rw [hV, dO]; exact blk_alloc_new _ _
       have Q5 : Only [] W0 V5 := by rw [hV]; exact Only.alloc Q1 _
       have hfw : W0.heap.size ≤ fb := by rw [dO]; exact (Q1).size
       have hb5 : V5.heap[b]? = some (.cells oP.toArray 97 (0, 0)) := by rw [hV, cO (aK hb)]; exact hb
       clear hV dO
       refine hK.out _ _ (KC.out _ Q5) (fun hHeld => ?_)
       clear hK K
       try simp only [Act.put, sI]
       refine wpAnyH_ready (rs := [5]) (by kernel_rfl) (by simp) ?_
       refine AllReadyH.cons rfl (fun K hK => ?_) AllReadyH.nil
       obtain ⟨d0, d1, d2, d3⟩ := mH hb5 hi
       go_simp
       clear d0 d1 d2 d3
       refine hK.out _ _ (KC.out _ Q5) (fun hHeld => ?_)
       clear hK K
       try simp only [Act.put, sI]
       refine wpAnyH_ready (rs := [7]) (by kernel_rfl) (by simp) ?_
       refine AllReadyH.cons rfl (fun K hK => ?_) AllReadyH.nil
       have n0 := aa N5 0
       have n1 := aa N5 1
       have n2 := aa N5 2
       have n3 := aa N5 3
       simp at n0 n1 n2 n3
       have f0 := ay N5 0
       have f1 := ay N5 1
       have f2 := ay N5 2
       have f3 := ay N5 3
       have hfl := aK N5
       go_simp
       clear n0 n1 n2 n3 f0 f1 f2 f3 hfl
       refine hK.out _ _ (KC.out _ (((((Only.setCell Q5 (.inr hfw) _).setCell (.inr hfw) _).setCell (.inr hfw) _).setCell (.inr hfw) _))) (fun hHeld => ?_)
       clear hK K
       try simp only [Act.put, sI]
       refine wpAnyH_done (by kernel_rfl) ?_ _
       clear hHeld
       go_wp2_with fail
       go_meet
       exact ⟨_, rfl, by
         have e := aR (aR (aR (aR N5 0 (.string ⟨(aI i).word.toArray⟩)) 1 (.bool (aI i).t)) 2 (.bool (aI i).o)) 3 (.bool (aI i).l)
         simpa only [List.setIfInBounds_toArray, List.set_cons_zero, List.set_cons_succ] using e, ((((Only.setCell Q5 (.inr hfw) _).setCell (.inr hfw) _).setCell (.inr hfw) _).setCell (.inr hfw) _)⟩
   · go_simp
     obtain ⟨V8, hV⟩ : ∃ V, V = W9.alloc (.cells #[.string ⟨#[]⟩, .bool false, .bool false, .bool false] 97) := ⟨_, rfl⟩
     try rw [← hV]
     obtain ⟨fb, dO⟩ : ∃ fb, fb = W9.heap.size := ⟨_, rfl⟩
     try rw [← dO]
     have N8 : V8.heap[fb]? = some (.cells #[.string ⟨#[]⟩, .bool false, .bool false, .bool false] 97 (0, 0)) := by rw [hV, dO]; exact blk_alloc_new _ _
     have Q8 : Only [] W0 V8 := by rw [hV]; exact Only.alloc Q9 _
     have hfw : W0.heap.size ≤ fb := by rw [dO]; exact (Q9).size
     clear hV dO
     refine hK.out _ _ (KC.out _ Q8) (fun hHeld => ?_)
     clear hK K
     try simp only [Act.put, sI]
     refine wpAnyH_ready (rs := [0]) (by kernel_rfl) (by simp) ?_
     refine AllReadyH.cons rfl (fun K hK => ?_) AllReadyH.nil
     go_simp
     refine (sO _).mono ?_; rintro e V9 ⟨b, rfl, hb, hle, o⟩
     have Q9 := Only.bF Q8 o
     have N9 := o.keep N8 (by simp)
     have hbl := aK hb
     clear o
     refine hK.out _ _ (KC.out _ Q9) (fun hHeld => ?_)
     clear hK K
     try simp only [Act.put, sI]
     refine wpAnyH_take (i := 4) (v := ?_) rfl (by kernel_rfl) (by kernel_rfl) (by kernel_rfl) (fun _ _ _ h => h) (Or.inl ⟨by rfl, ?_⟩) (KC.out _ Q9) ?_
     rotate_left
     · (intro w hSw; (try dsimp only at hSw); go_simp; try with_reducible rfl)
     try simp only [Act.put, sI]
     refine wpAnyH_ready (rs := [5]) (by kernel_rfl) (by simp) ?_
     refine AllReadyH.cons rfl (fun K hK => ?_) AllReadyH.nil
     obtain ⟨d0, d1, d2, d3⟩ := mH hb hi
     go_simp
     clear d0 d1 d2 d3
     refine hK.out _ _ (KC.out _ Q9) (fun hHeld => ?_)
     clear hK K
     try simp only [Act.put, sI]
     refine wpAnyH_ready (rs := [7]) (by kernel_rfl) (by simp) ?_
     refine AllReadyH.cons rfl (fun K hK => ?_) AllReadyH.nil
     have n0 := aa N9 0
     have n1 := aa N9 1
     have n2 := aa N9 2
     have n3 := aa N9 3
     simp at n0 n1 n2 n3
     have f0 := ay N9 0
     have f1 := ay N9 1
     have f2 := ay N9 2
     have f3 := ay N9 3
     have hfl := aK N9
     go_simp
     clear n0 n1 n2 n3 f0 f1 f2 f3 hfl
     refine hK.out _ _ (KC.out _ (((((Only.setCell Q9 (.inr hfw) _).setCell (.inr hfw) _).setCell (.inr hfw) _).setCell (.inr hfw) _))) (fun hHeld => ?_)
     clear hK K
     try simp only [Act.put, sI]
     refine wpAnyH_done (by kernel_rfl) ?_ _
     clear hHeld
     go_wp2_with fail
     go_meet
     exact ⟨_, rfl, by
       have e := aR (aR (aR (aR N9 0 (.string ⟨(aI i).word.toArray⟩)) 1 (.bool (aI i).t)) 2 (.bool (aI i).o)) 3 (.bool (aI i).l)
       simpa only [List.setIfInBounds_toArray, List.set_cons_zero, List.set_cons_succ] using e, ((((Only.setCell Q9 (.inr hfw) _).setCell (.inr hfw) _).setCell (.inr hfw) _).setCell (.inr hfw) _)⟩
   --REG>
 case rest =>
   obtain ⟨fb, rfl, dO, ho⟩ := hcut
   obtain ⟨w1, hw1⟩ : ∃ w1, w1 = wc := ⟨_, rfl⟩
   subst hw1
   have FB := Lib.hid dO
   have O1 := Lib.hid ho
   have c0 := aa dO 0
   have c1 := aa dO 1
   have c2 := aa dO 2
   have c3 := aa dO 3
   simp at c0 c1 c2 c3
   have hx := ho.keep HX.out (by simp)
   have d0 := aa hx 0
   have d1 := aa hx 1
   have d2 := aa hx 2
   have d3 := aa hx 3
   have d4 := aa hx 4
   simp at d0 d1 d2 d3 d4
   clear dO ho hx
   go_wp2_with fail
   refine (UF.out _).mono ?_; rintro e w2 ⟨rfl, o2⟩
   have O2 := Lib.hid (O1.out.bF o2)
   clear c0 c1 c2 c3 d0 d1 d2 d3 d4
   have hx := O2.out.keep HX.out (by simp)
   have d0 := aa hx 0
   have d1 := aa hx 1
   have d2 := aa hx 2
   have d3 := aa hx 3
   have d4 := aa hx 4
   simp at d0 d1 d2 d3 d4
   have hlx := aK hx
   clear hx o2
   go_wp2_with fail
   refine (VF.out _).mono ?_; rintro e w3 ⟨rfl, o3⟩
   obtain ⟨ub, hub⟩ : ∃ ub, ub = w2.heap.size := ⟨_, rfl⟩
   rw [← hub]
   have HU := Lib.hid (show w3.heap[ub]? = some (.cells #[.bool true, .bool (aI i).t, .bool (aI i).o, .bool (aI i).l] 95 (0, 0)) from by
     rw [hub]; exact o3.keep (blk_alloc_new w2 _) (by simp))
   have O3 := Lib.hid ((O2.out.alloc (.cells #[.bool true, .bool (aI i).t, .bool (aI i).o, .bool (aI i).l] 95)).bF o3)
   clear hub o3 d0 d1 d2 d3 d4 hlx
   go_wp2_with fail
   go_loopw [4, 6, 7, 20] (fun s _ _ r wr => ∃ (k : Nat) (LB : ByteArray), r = .int .i64 k ∧ k ≤ 4 ∧ s = .string LB ∧ LB = ⟨(jG ⟨(i : Int) + 1, wk, tk, ot, lv⟩ (aI i) k).toArray⟩ ∧ LB.size ≤ 6 + 4 * k ∧ Only [] w3 wr) (fun _ _ _ r _ => 4 - (intOf r).toNat)
   case atStart => exact ⟨0, _, rfl, by omega, rfl, rfl, by rw [gG]; exact Cj i, Only.refl _ _⟩
   case round =>
     obtain ⟨k, LB, rfl, hk4, rfl, hLB, hLs, ho⟩ := hrel
     obtain ⟨w4, hw4⟩ : ∃ w4, w4 = wr := ⟨_, rfl⟩
     subst hw4
     have OW := Lib.hid ho
     have HLB := Lib.hid hLB
     clear ho hLB
     by_cases hk : k < 4
     · have hix := afC ⟨(i : Int) + 1, wk, tk, ot, lv⟩ k hk
       have hcu : w4.cell? ⟨ub, k, none⟩ = some (.bool (jo (aI i) k)) := by
         rw [aa (OW.out.keep HU.out (by simp))]
         rcases (show k = 0 ∨ k = 1 ∨ k = 2 ∨ k = 3 from by omega) with rfl | rfl | rfl | rfl <;> rfl
       have hxb := FL.out k hk
       obtain ⟨x, hx⟩ : ∃ x, x = gB ⟨(i : Int) + 1, wk, tk, ot, lv⟩ k := ⟨_, rfl⟩
       obtain ⟨u, hu⟩ : ∃ u, u = jo (aI i) k := ⟨_, rfl⟩
       simp only at hix
       rw [← hx] at hix hxb
       rw [← hu] at hcu
       obtain ⟨IB, hIB⟩ : ∃ IB : ByteArray, IB = ⟨(Lib.itoa x).toArray⟩ := ⟨_, rfl⟩
       have hIs : IB.size ≤ 3 := by rw [hIB, gG]; exact qi hxb.1 hxb.2
       have SG : Hid (∀ R : ByteArray, (u = true → R = LB ++ (⟨#[32]⟩ ++ IB)) → (u = false → R = LB) → R = ⟨(jG ⟨(i : Int) + 1, wk, tk, ot, lv⟩ (aI i) (k + 1)).toArray⟩) := Lib.hid (by
         intro R h1 h2
         have e : jG ⟨(i : Int) + 1, wk, tk, ot, lv⟩ (aI i) (k + 1) = jG ⟨(i : Int) + 1, wk, tk, ot, lv⟩ (aI i) k ++ (if u then 32 :: Lib.itoa x else []) := by rw [hu, hx]; rfl
         rw [e]
         cases u with
         | true => rw [h1 rfl, HLB.out, hIB, show (⟨#[32]⟩ : ByteArray) = ⟨[(32 : UInt8)].toArray⟩ from rfl, ym, ym]; rfl
         | false => rw [h2 rfl, HLB.out]; simp)
       have IT := DI w4 (HL.out.jJ ((O0.out.bF O3.out).bF OW.out)) x (by omega) (by omega)
       rw [← hIB] at IT
       have ITH := Lib.hid IT
       have h1s : (⟨#[32]⟩ : ByteArray).size = 1 := rfl
       clear hx hu hIB IT
       cases u with
       | true =>
         go_wp2_with fail
         refine ITH.out.mono ?_; rintro e w5 ⟨rfl, o5⟩
         have O5 := Lib.hid (OW.out.bF o5)
         clear o5
         go_wp2_with fail
         go_roundw
         case rel => exact ⟨k + 1, _, by go_num, by omega, rfl, SG.out _ (fun _ => rfl) (fun h => by cases h), by rw [ByteArray.size_append, ByteArray.size_append, h1s]; omega, O5.out⟩
         case measure => simp [intOf]; omega
       | false =>
         go_wp2_with fail
         go_roundw
         case rel => exact ⟨k + 1, LB, by go_num, by omega, rfl, SG.out _ (fun h => by cases h) (fun _ => rfl), by omega, OW.out⟩
         case measure => simp [intOf]; omega
     · obtain rfl : k = 4 := by omega
       have h1s : (⟨#[10]⟩ : ByteArray).size = 1 := rfl
       go_wp2_with fail
       go_ret
       exact ⟨by rw [RES.out, HLB.out, ← ym]; rfl, (O0.out.bF O3.out).bF OW.out⟩
end
end Go.Proofs.YtncnepmgmphanaaGreatDoor
