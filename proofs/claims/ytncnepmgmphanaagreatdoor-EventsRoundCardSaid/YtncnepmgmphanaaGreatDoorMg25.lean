/- The events of a script: the laws' history returns. No condition beside those named. -/
import Derived.Test.YtncnepmgmphanaaGreatDoorTcDec
import Derived.Test.YtncnepmgmphanaaGreatDoorMg23
import Derived.Test.YtncnepmgmphanaaGreatDoorTcEngNew
import Derived.Test.YtncnepmgmphanaaGreatDoorMg02
import Derived.Deep.RegionHeld3
set_option linter.unusedVariables false
set_option linter.unusedSimpArgs false
set_option linter.unusedSectionVars false
namespace Go.Proofs.YtncnepmgmphanaaGreatDoor
open Go.RowKit
variable {B N : Nat}
theorem GX.re {w00 w w' : World} {sh : Sh} {B T rb N xb : Nat} (h : GX w00 sh B T rb N w xb) (hw : WT kd.sig B N w') (g : Eff (fun _ _ _ => False) w w') : GX w' sh B T rb N w' xb := by
  obtain ⟨sb, lb, k, kc, mbs, fbs, ent, st, l0, l1, l2, l3, h, ev, he1, he2⟩ := h
  letI : Inhabited SBW := sbI sb
  have h' := h.out0 (Nat.le_refl _) hw g
  exact ⟨sb, lb, k, kc, mbs, fbs, ent, st, l0, l1, l2, l3, { h' with keep := Eff.refl _ _ }, ev, g.cell he1 fun _ h => h, he2⟩
theorem GX.wt {w00 w : World} {sh : Sh} {B T rb N xb : Nat} (h : GX w00 sh B T rb N w xb) : WT kd.sig B N w := by
  obtain ⟨sb, lb, k, kc, mbs, fbs, ent, st, l0, l1, l2, l3, h, -⟩ := h
  letI : Inhabited SBW := sbI sb
  exact h.wt
theorem GX.bw {w00 w : World} {sh : Sh} {B T rb N xb : Nat} (h : GX w00 sh B T rb N w xb) : B ≤ w.heap.size := by
  obtain ⟨sb, lb, k, kc, mbs, fbs, ent, st, l0, l1, l2, l3, h, -⟩ := h
  letI : Inhabited SBW := sbI sb
  exact h.bw
theorem GX.evs {w00 w : World} {sh : Sh} {B T rb N xb : Nat} (h : GX w00 sh B T rb N w xb) : ∃ pe v, w.cell? ⟨xb, 0, none⟩ = some (.pointer (some ⟨pe, 0, none⟩)) ∧ w.cell? ⟨pe, 20, none⟩ = some v ∧ CellOK w B N (.sl 27 5) v := by
  obtain ⟨sb, lb, k, kc, mbs, fbs, ent, st, l0, l1, l2, l3, h, -⟩ := h
  letI : Inhabited SBW := sbI sb
  have c0 : w.cell? ⟨xb, 0, none⟩ = some (.pointer (some ⟨sh.pe, 0, none⟩)) := by rw [cell_blk h.eng]; rfl
  obtain ⟨c, h1, h2, h3⟩ := h.ee.blk
  have h3' : 21 ≤ c.size := by rw [szE] at h3; omega
  obtain ⟨v, hv, ho⟩ := row_cell h.wt kEv h1 h2 (i := 20) (j := 20) (by omega) rfl rfl
  exact ⟨sh.pe, v, c0, hv, ho⟩
theorem ScE.at {w : World} {B0 k n cap : Nat} {ao : Option Addr} (h : ScE w B0 k (.slice ao k cap)) (hn : n ≤ k) : EntsAt w ao n := by
  obtain ⟨f, h1, h2⟩ := h
  rcases Nat.eq_zero_or_pos n with e | hp
  · exact .inl e
  rcases h1 with ⟨e, h0⟩ | ⟨lb, kc, cur, e, g1, g2, g3, g4, g5, g6⟩
  · omega
  · cases e
    refine .inr ⟨lb, cur, rfl, g2, fun i hi => ?_⟩
    obtain ⟨a, b, e, ia, ib⟩ := h2 i (by omega)
    have q0 := g6 i 0 (.int .i64 a) (by omega) (by omega) (by rw [e]; rfl)
    have q1 := g6 i 1 (.int .i64 b) (by omega) (by omega) (by rw [e]; rfl)
    rw [cell_blk g2] at q0 q1
    exact ⟨a, b, q0, q1, ia, ib⟩
theorem DC.out {w0 w : World} {ao : Option Addr} {nb : Nat} (C : DC B N w0 ao nb) (e : Eff (fun k _ _ => w0.heap.size ≤ k) w0 w) : DC B N w ao nb :=
  ⟨Nat.le_trans C.b e.size, C.n1, C.n2, C.bs.keep e, C.nb⟩
set_option maxRecDepth 100000 in
set_option maxHeartbeats 4000000 in
theorem config_any (w : World) (ao : Option Addr) (nb cap : Nat) (hw : WT kd.sig B N w) (C : DC B N w ao nb) :
    Calls Tryz.prog 18 #[.slice ao nb cap] w fun e w' => ∃ c : Cfg, e = .returned (.agg c.cells.toArray) ∧ DecMade B N w c w' := by
  have HW := Lib.hid (And.intro hw C)
  clear hw C
  obtain ⟨W1, hW1⟩ : ∃ W1, W1 = w.alloc (.cells zeroC.toArray 48) := ⟨_, rfl⟩
  obtain ⟨rb, hrb⟩ : ∃ rb, rb = w.heap.size := ⟨_, rfl⟩
  have H1 := Lib.hid (show WT kd.sig B N W1 ∧ Eff (fun _ _ _ => False) w W1 ∧ W1.heap[rb]? = some (.cells zeroC.toArray 48 (0, 0)) ∧ DC B N W1 ao nb ∧ w.heap.size ≤ rb from by
    obtain ⟨hw, C⟩ := HW.out
    have e : Eff (fun _ _ _ => False) w W1 := by rw [hW1]; exact Eff.alloc1 _ _ _
    exact ⟨by rw [hW1]; exact hw.alloc kCf (RowsOK.one zeroC_ok), e, by rw [hW1, hrb]; exact blk_alloc_new _ _, C.out (e.mono fun _ _ _ _ h => h.elim), by omega⟩)
  go_enter Tryz.func18, Tryz.ntmps18
  go_upto_region 1 with fail
  change Code.wp _ _ _ _ (w.alloc (.cells zeroC.toArray 48))
  rw [← hW1, ← hrb]
  clear hW1 hrb
  go_wp2_with fail
  refine (decode_walk W1 ao nb cap H1.out.1 H1.out.2.2.2.1).mono ?_
  rintro e w2 ⟨c, rfl, hD⟩
  have HD := Lib.hid hD
  clear hD
  have RR := Lib.hid (show w2.heap[rb]? = some (.cells zeroC.toArray CfT (0, 0)) from HD.out.2.2.blk H1.out.2.2.1 fun _ _ h => h)
  have infoD : (Tryz.prog.info? 48).map (·.size) = some c.cells.toArray.size := by
    show (Tryz.prog.info? 48).map (·.size) = some 11
    kernel_rfl
  have TH : w2.there rb 0 c.cells.toArray.size := there_blkD RR.out (by show 11 ≤ 11; omega)
  have OC : c.cells.toArray.all (·.oneCell') = true := all_oneCell_toArray HD.out.1.all.one
  have FIN := Lib.hid (show DecMade B N w c (w2.setCells rb 0 c.cells) ∧ (w2.setCells rb 0 c.cells).heap[rb]? = some (.cells c.cells.toArray CfT (0, 0)) from by
    obtain ⟨⟨h1, h2, h3, h4, h5, h6⟩, W2, E2⟩ := HD.out
    have s := (stored_setCells w2 rb c.cells).2 _ _ RR.out rfl
    have e1 : Eff (fun k T _ => k = rb ∧ T = CfT) w2 (w2.setCells rb 0 c.cells) := Eff.setsT c.cells 0 w2 _ (Eff.refl _ _) RR.out fun _ _ => .inl ⟨rfl, rfl⟩
    have W : WT kd.sig B N (w2.setCells rb 0 c.cells) := WT.sets kCfT c.cells cs_api_Config 0 w2 _ W2 RR.out h1 fun j k hj => by
      have hlt : j < cs_api_Config.length := (List.getElem?_eq_some_iff.1 hj).1
      rw [Nat.zero_add, Nat.mod_eq_of_lt hlt]
      exact hj
    have hb := H1.out.2.2.2.2
    refine ⟨⟨⟨h1.mono e1 (Nat.le_refl _), h2, h3, h4, h5, ?_⟩, W, ?_⟩, s⟩
    · letI : Inhabited SBW := sbI 0
      exact h6.mono W2 h1.2.2.2.2.2.2.2.2.2.1 (e1.mono fun b T j _ hc => by
        obtain ⟨rfl, rfl⟩ := hc
        have hp : (prot.all fun p => p.1 != CfT) = true := by kernel_rfl
        intro hm
        have := List.all_eq_true.1 hp _ hm
        simp at this)
    · exact (((H1.out.2.1.trans E2).mono (Ch' := fun k _ _ => w.heap.size ≤ k) fun _ _ _ _ h => h.elim).trans (e1.mono fun _ _ _ _ h => by omega)).mono fun k _ _ hk hc => by omega)
  go_wp2_with (with_reducible refine wpList_store_mid rfl 48 (.tmp 2) (.tmp 4) rfl rb 0 c.cells.toArray rfl rfl TH infoD OC ?_)
  have RT := FIN.out.2
  refine bodyPost_ret (v := .agg c.cells.toArray) ?_ rfl ?_
  · exact results_cell_row (p := 2) (ty := 48) rfl _ _ rb CfT _ _ _ rfl RT Tryz.underlying48 rfl infoD
  · exact ⟨c, rfl, FIN.out.1⟩
set_option maxRecDepth 100000 in
set_option maxHeartbeats 4000000 in
theorem engine_any (w : World) (c : Cfg) (hw : WT kd.sig B N w) (hB : B ≤ w.heap.size) (hN : 131072 ≤ N) (hN2 : N ≤ 68719476736) (hc : CfgOK B N w c) :
    Calls Tryz.prog 17 #[.agg c.cells.toArray] w fun e w' => ∃ xb, e = .returned (.pointer (some ⟨xb, 0, none⟩)) ∧ EngMade B N c w xb w' := by
  obtain ⟨W1, hW1⟩ : ∃ W1, W1 = w.alloc (.cells c.cells.toArray 48) := ⟨_, rfl⟩
  obtain ⟨cb, hcb⟩ : ∃ cb, cb = w.heap.size := ⟨_, rfl⟩
  have H1 := Lib.hid (show WT kd.sig B N W1 ∧ Eff (fun _ _ _ => False) w W1 ∧ W1.heap[cb]? = some (.cells c.cells.toArray 48 (0, 0)) ∧ B ≤ W1.heap.size ∧ CfgOK B N W1 c from by
    have e : Eff (fun _ _ _ => False) w W1 := by rw [hW1]; exact Eff.alloc1 _ _ _
    exact ⟨by rw [hW1]; exact hw.alloc kCf (RowsOK.one hc.all), e, by rw [hW1, hcb]; exact blk_alloc_new _ _, Nat.le_trans hB e.size, hc.keep hw e⟩)
  clear hw hB hc
  go_enter Tryz.func17, Tryz.ntmps17
  unfold Cfg.cells
  go_upto_region 1 with fail
  change Code.wp _ _ _ _ (w.alloc (.cells c.cells.toArray 48))
  rw [← hW1, ← hcb]
  clear hW1 hcb
  have rg := Lib.hid (show W1.rangeAt cb 0 c.cells from rangeAt_blk H1.out.2.2.1)
  have infoC : (Tryz.prog.info? 48).map (·.size) = some c.cells.length := by
    show (Tryz.prog.info? 48).map (·.size) = some 11
    kernel_rfl
  go_wp2_with (with_reducible refine wpList_load_mid rfl 48 (.tmp 1) rfl cb 0 rfl c.cells _ rg.out rfl rfl infoC ?_)
  refine (engNew_walk (B := B) (N := N) W1 c H1.out.1 H1.out.2.2.2.1 hN hN2 H1.out.2.2.2.2).mono ?_
  rintro e w2 ⟨xb, rfl, hE⟩
  have HE := Lib.hid (show EngMade B N c w xb w2 from ⟨H1.out.2.1.trans hE.1, Nat.le_trans H1.out.2.1.size hE.2.1, hE.2.2⟩)
  clear hE
  go_wp2_with fail
  refine bodyPost_ret (results_tmp rfl _ _ _) rfl ?_
  exact ⟨xb, rfl, HE.out⟩
set_option maxRecDepth 100000 in
set_option maxHeartbeats 4000000 in
theorem script_any (w : World) (ao : Option Addr) (n cap : Nat) (hw : WT kd.sig B N w) (hB : B ≤ w.heap.size) (hbs : BytesAt w ao n) (hn : n ≤ 100000) :
    Calls Tryz.prog 20 #[.slice ao n cap, .int .i64 300] w fun e w' => ∃ ao2 n2 cap2, e = .returned (.slice ao2 n2 cap2) ∧ n2 ≤ 300 ∧ WT kd.sig B N w' ∧ Eff (fun _ _ _ => False) w w' ∧ EntsAt w' ao2 n2 := by
  have HC := Lib.hid (scr_walk (B := B) (N := N) w ao n cap hw hB hbs hn)
  clear hw hB hbs
  go_enter Tryz.func20, Tryz.ntmps20
  go_wp2_with fail
  refine HC.out.mono ?_
  rintro e w2 ⟨k, v, rfl, hk, hS⟩
  have HS := Lib.hid hS
  by_cases hgt : 300 < k
  · obtain ⟨f, hF, hf⟩ := hS.en
    rcases hF with ⟨e, h0⟩ | ⟨lb, kc, cur, e, g1, g2, g3, g4⟩
    · omega
    subst e
    clear hf hS g2 g4
    have hgt' : (300 : Int) < (k : Int) := by omega
    have h300 : 300 ≤ kc := by omega
    go_wp2_with fail
    refine bodyPost_ret (results_tmp rfl _ _ _) rfl ?_
    exact ⟨_, 300, _, rfl, Nat.le_refl _, HS.out.wt, HS.out.eff, HS.out.en.at (by omega)⟩
  · obtain ⟨ao3, cap3, rfl⟩ : ∃ ao3 cap3, v = .slice ao3 k cap3 := by
      obtain ⟨f, hF, hf⟩ := hS.en
      rcases hF with ⟨e, h0⟩ | ⟨lb, kc, cur, e, -⟩
      · exact ⟨none, 0, by rw [e, h0]⟩
      · exact ⟨_, _, e⟩
    clear hS
    have hgt' : ¬ (300 : Int) < (k : Int) := by omega
    go_wp2_with fail
    refine bodyPost_ret (results_tmp rfl _ _ _) rfl ?_
    exact ⟨_, k, _, rfl, by omega, HS.out.wt, HS.out.eff, HS.out.en.at (Nat.le_refl _)⟩
set_option maxRecDepth 100000 in
set_option maxHeartbeats 4000000 in
theorem history_any (w : World) (ao sa : Option Addr) (nb cb ns cs : Nat) (hb : BytesAt w ao nb) (hs : BytesAt w sa ns) (hnb : nb ≤ 100000) (hns : ns ≤ 100000) :
    Calls Tryz.prog 8 #[.slice ao nb cb, .slice sa ns cs] w fun e w' => ∃ v N', e = .returned v ∧ N' ≤ 200000 ∧ WT kd.sig w.heap.size N' w' ∧ CellOK w' w.heap.size N' (.sl 27 5) v ∧ Eff (fun k _ _ => w.heap.size ≤ k) w w' := by
  obtain ⟨B, hB⟩ : ∃ B, B = w.heap.size := ⟨_, rfl⟩
  obtain ⟨N, hN⟩ : ∃ N, N = 131072 := ⟨_, rfl⟩
  rw [← hB]
  have hw : WT kd.sig B N w := fun k c T f L hk hh hL => by
    have := (Array.getElem?_eq_some_iff.1 hh).1
    omega
  have C : DC B N w ao nb := ⟨by omega, by omega, by omega, hb, by omega⟩
  have HC := Lib.hid (config_any w ao nb cb hw C)
  have HW := Lib.hid (show B = w.heap.size ∧ N = 131072 ∧ DC B N w sa ns ∧ ns ≤ 100000 from ⟨hB, hN, ⟨by omega, by omega, by omega, hs, by omega⟩, hns⟩)
  clear hb hs hnb hns hw C hB hN
  go_enter Tryz.func8, Tryz.ntmps8
  go_wp2_with fail
  refine HC.out.mono ?_
  rintro e w1 ⟨c, rfl, hD⟩
  have HD := Lib.hid hD
  clear hD HC
  go_wp2_with fail
  refine (engine_any (B := B) (N := N) w1 c HD.out.2.1 (Nat.le_trans HW.out.2.2.1.b HD.out.2.2.size) HW.out.2.2.1.n1 HW.out.2.2.1.n2 HD.out.1).mono ?_
  rintro e w2 ⟨xb, rfl, hE⟩
  have HE := Lib.hid hE
  clear hE
  go_wp2_with fail
  obtain ⟨E2, hx, pe, m, rs, rb, cr, h19, G2⟩ := HE.out
  have HS2 := Lib.hid (show DC B N w2 sa ns ∧ Eff (fun _ _ _ => False) w w2 from ⟨HW.out.2.2.1.out ((HD.out.2.2.trans E2).mono fun _ _ _ _ h => h.elim), HD.out.2.2.trans E2⟩)
  have HG2 := Lib.hid G2
  have H19 := Lib.hid h19
  clear G2 h19 hx E2
  refine (script_any (B := B) (N := N) w2 sa ns cs HG2.out.wt HG2.out.bw HS2.out.1.bs HW.out.2.2.2).mono ?_
  rintro e w3 ⟨ao2, n2, cap2, rfl, hn2, W3, E3, hEn⟩
  have HG3 := Lib.hid (HG2.out.re W3 E3)
  have HS3 := Lib.hid (HS2.out.2.trans E3)
  have HEn := Lib.hid hEn
  clear W3 E3 hEn
  go_wp2_with fail
  refine (runE_any (ao := ao2) (n := n2) (cap := cap2) HG3.out H19.out (by have := HW.out.2.1; omega) (by omega) (by have := HW.out.2.1; omega) HEn.out).mono ?_
  rintro e w4 ⟨rfl, hG4⟩
  have HG4 := Lib.hid hG4
  obtain ⟨pe4, v, q0, q20, qv⟩ := hG4.evs
  have HV := Lib.hid qv
  clear hG4 qv
  go_wp2_with fail
  refine bodyPost_ret (results_tmp rfl _ _ _) rfl ?_
  exact ⟨v, _, rfl, by have := HW.out.2.1; omega, HG4.out.wt, HV.out, ((HS3.out.mono (Ch' := fun k _ _ => B ≤ k) fun _ _ _ _ h => h.elim).trans (HG4.out.keep.mono fun _ _ _ _ h => h.1))⟩
end Go.Proofs.YtncnepmgmphanaaGreatDoor

namespace Go.Proofs.YtncnepmgmphanaaGreatDoor
open Go.RowKit
def segB (e : Evt) (f : EForm) (k : Nat) : List UInt8 := if usAt f k then 32 :: Lib.itoa (flAt e k) else []
def lineTo (e : Evt) (f : EForm) : Nat → List UInt8
  | 0 => f.word
  | k + 1 => lineTo e f k ++ segB e f k
def lineB (e : Evt) : List UInt8 := lineTo e (formAt (e.kind - 1).toNat) 4 ++ [10]
theorem dec_len {u : Nat} (h : u < 1000) : (Lib.decDigits u).length ≤ 3 := by
  rw [Lib.decDigits]
  split
  · simp
  · rw [Lib.decDigits]
    split
    · simp
    · rw [Lib.decDigits]
      split
      · simp
      · omega
theorem itoa_len {x : Int} (h0 : 0 ≤ x) (h1 : x ≤ 256) : (Lib.itoa x).length ≤ 3 := by
  unfold Lib.itoa
  rw [if_neg (by omega)]
  exact dec_len (by omega)
theorem word_len (i : Nat) : (formAt i).word.length ≤ 6 := by
  by_cases h : i < 19
  · rcases nat19 h with rfl | rfl | rfl | rfl | rfl | rfl | rfl | rfl | rfl | rfl | rfl | rfl | rfl | rfl | rfl | rfl | rfl | rfl | rfl <;> decide
  · have : formAt i = ⟨[], false, false, false⟩ := by unfold formAt; rw [List.getD_eq_getElem?_getD, List.getElem?_eq_none (by simp [evForms]; omega)]; rfl
    rw [this]; simp
theorem bytes_app (a b : List UInt8) : (⟨a.toArray⟩ : ByteArray) ++ ⟨b.toArray⟩ = ⟨(a ++ b).toArray⟩ := by
  apply ByteArray.ext
  simp
theorem size_list (a : List UInt8) : (⟨a.toArray⟩ : ByteArray).size = a.length := by simp [ByteArray.size]
theorem valid_parts {e : Evt} (h : validB e = true) : 1 ≤ e.kind ∧ e.kind ≤ 19 ∧ ∀ k, k < 4 → 0 ≤ flAt e k ∧ flAt e k ≤ 256 := by
  simp [validB, fldOK] at h
  refine ⟨by omega, by omega, fun k hk => ?_⟩
  rcases (show k = 0 ∨ k = 1 ∨ k = 2 ∨ k = 3 from by omega) with rfl | rfl | rfl | rfl <;> simp [flAt] <;> omega
set_option maxRecDepth 100000 in
set_option maxHeartbeats 4000000 in
theorem line_any (w : World) (hL : LibAt w) (v : Evt) (hv : validB v = true) : Calls Tryz.prog 29 #[evV v] w fun e w' => e = .returned (.string ⟨(lineB v).toArray⟩) ∧ Only [] w w' := by
  obtain ⟨hk1, hk2, hfl⟩ := valid_parts hv
  rcases v with ⟨K, wk, tk, ot, lv⟩
  obtain ⟨i, hi0, hi⟩ : ∃ i : Nat, K = (i : Int) + 1 ∧ i < 19 := ⟨(K - 1).toNat, by simp only at hk1; omega, by simp only at hk2; omega⟩
  subst hi0
  have hii : ((i : Int) + 1 - 1).toNat = i := by omega
  have FL := Lib.hid hfl
  have HL := Lib.hid hL
  obtain ⟨res, hres⟩ : ∃ r, r = lineB ⟨(i : Int) + 1, wk, tk, ot, lv⟩ := ⟨_, rfl⟩
  have RES : Hid (res = lineTo ⟨(i : Int) + 1, wk, tk, ot, lv⟩ (formAt i) 4 ++ [10]) := Lib.hid (by rw [hres]; unfold lineB; rw [hii])
  rw [← hres]
  have UF0 := fun w' => used_any w' (formAt i)
  have VF0 := fun w' => fields_any w' ⟨(i : Int) + 1, wk, tk, ot, lv⟩
  unfold fmV at UF0
  unfold evV at VF0 ⊢
  have UF := Lib.hid UF0
  have VF := Lib.hid VF0
  obtain ⟨bx, hbx⟩ : ∃ bx, bx = w.heap.size := ⟨_, rfl⟩
  have HBX := Lib.hid hbx
  obtain ⟨W0, hW0⟩ : ∃ W0, W0 = w.alloc (.cells #[.int .i64 ((i : Int) + 1), .int .i64 wk, .int .i64 tk, .int .i64 ot, .int .i64 lv] 27) := ⟨_, rfl⟩
  have HX := Lib.hid (show W0.heap[bx]? = some (.cells #[.int .i64 ((i : Int) + 1), .int .i64 wk, .int .i64 tk, .int .i64 ot, .int .i64 lv] 27 (0, 0)) from by rw [hW0, hbx]; exact blk_alloc_new w _)
  have O0 : Hid (Only [] w W0) := Lib.hid (by rw [hW0]; exact (Only.refl _ _).alloc _)
  have HW0 := Lib.hid hW0
  have hK0 : ∀ w', Only [] W0 w' → w'.cell? ⟨bx, 0, none⟩ = some (.int .i64 ((i : Int) + 1)) := fun w' o => cell_blk (o.keep HX.out (by simp)) 0
  have KC := Lib.hid hK0
  have hi2 : (i : Int) < 19 := by omega
  have hz1 : (i : Int) + 1 - 1 = i := by omega
  have hz2 : IntKind.i64.wrap (i : Int) = i := IntWalk.i64_in _ (by omega)
  clear hres hii hbx hfl hv hL UF0 VF0 hk1 hk2 hK0 hW0
  go_enter Tryz.func29, Tryz.ntmps29
  go_wp2_with fail
  rw [← HBX.out, ← HW0.out]
  go_upto_region 1 with fail
  go_cut [3] (fun s3 wx => ∃ fb, s3 = .pointer (some ⟨fb, 0, none⟩) ∧ wx.heap[fb]? = some (.cells #[.string ⟨(formAt i).word.toArray⟩, .bool (formAt i).t, .bool (formAt i).o, .bool (formAt i).l] 97 (0, 0)) ∧ Only [] W0 wx)
  case first =>
    refine wp_region_held_drew (S := fun w' => w'.cell? ⟨bx, 0, none⟩ = some (.int .i64 ((i : Int) + 1))) (by kernel_rfl) (KC.out _ (Only.refl _ _).drew) (fun hHeld => ?_)
    obtain ⟨W9, hW9⟩ : ∃ W9, W9 = W0.drew := ⟨_, rfl⟩
    have Q9 : Only [] W0 W9 := by rw [hW9]; exact (Only.refl _ _).drew
    rw [← hW9]
    clear hW9
    --<REG
    refine wpAnyH_take (i := 1) (v := ?_) rfl (by kernel_rfl) (by kernel_rfl) (by kernel_rfl) (fun _ _ _ h => h) (Or.inl ⟨by rfl, ?_⟩) (KC.out _ Q9) ?_
    rotate_left
    · (intro w hSw; (try dsimp only at hSw); go_simp; try with_reducible rfl)
    try simp only [Act.put, sI]
    refine wpAnyH_take (i := 2) (v := ?_) rfl (by kernel_rfl) (by kernel_rfl) (by kernel_rfl) (fun _ _ _ h => h) (Or.inl ⟨by rfl, ?_⟩) (KC.out _ Q9) ?_
    rotate_left
    · (intro w hSw; (try dsimp only at hSw); go_simp; try with_reducible rfl)
    try simp only [Act.put, sI]
    refine wpAnyH_take (i := 3) (v := ?_) rfl (by kernel_rfl) (by kernel_rfl) (by kernel_rfl) (fun _ _ _ h => h) (Or.inl ⟨by rfl, ?_⟩) (KC.out _ Q9) ?_
    rotate_left
    · (intro w hSw; (try dsimp only at hSw); go_simp; try with_reducible rfl)
    try simp only [Act.put, sI]
    refine wpAnyH_ready (rs := [0, 6]) (by kernel_rfl) (by simp) ?_
    refine AllReadyH.cons rfl (fun K hK => ?_) (AllReadyH.cons rfl (fun K hK => ?_) AllReadyH.nil)
    · go_simp
      refine (forms_at _).mono ?_; rintro e V1 ⟨b, rfl, hb, hle, o⟩
      have Q1 := Only.then0 Q9 o
      have hbl := lt_of_blk hb
      clear o
      refine hK.out _ _ (KC.out _ Q1) (fun hHeld => ?_)
      clear hK K
      try simp only [Act.put, sI]
      refine wpAnyH_take (i := 4) (v := ?_) rfl (by kernel_rfl) (by kernel_rfl) (by kernel_rfl) (fun _ _ _ h => h) (Or.inl ⟨by rfl, ?_⟩) (KC.out _ Q1) ?_
      rotate_left
      · (intro w hSw; (try dsimp only at hSw); go_simp; try with_reducible rfl)
      try simp only [Act.put, sI]
      refine wpAnyH_ready (rs := [5, 6]) (by kernel_rfl) (by simp) ?_
      refine AllReadyH.cons rfl (fun K hK => ?_) (AllReadyH.cons rfl (fun K hK => ?_) AllReadyH.nil)
      · obtain ⟨d0, d1, d2, d3⟩ := formsL_cells hb hi
        go_simp
        clear d0 d1 d2 d3
        refine hK.out _ _ (KC.out _ Q1) (fun hHeld => ?_)
        clear hK K
        try simp only [Act.put, sI]
        refine wpAnyH_ready (rs := [6]) (by kernel_rfl) (by simp) ?_
        refine AllReadyH.cons rfl (fun K hK => ?_) AllReadyH.nil
        go_simp
        obtain ⟨V3, hV⟩ : ∃ V, V = V1.alloc (.cells #[.string ⟨#[]⟩, .bool false, .bool false, .bool false] 97) := ⟨_, rfl⟩
        try rw [← hV]
        obtain ⟨fb, hfb⟩ : ∃ fb, fb = V1.heap.size := ⟨_, rfl⟩
        try rw [← hfb]
        have N3 : V3.heap[fb]? = some (.cells #[.string ⟨#[]⟩, .bool false, .bool false, .bool false] 97 (0, 0)) := by rw [hV, hfb]; exact blk_alloc_new _ _
        have Q3 : Only [] W0 V3 := by rw [hV]; exact Only.alloc Q1 _
        have hfw : W0.heap.size ≤ fb := by rw [hfb]; exact (Q1).size
        have hb3 : V3.heap[b]? = some (.cells formsL.toArray 97 (0, 0)) := by rw [hV, blk_alloc_old (lt_of_blk hb)]; exact hb
        clear hV hfb
        refine hK.out _ _ (KC.out _ Q3) (fun hHeld => ?_)
        clear hK K
        try simp only [Act.put, sI]
        refine wpAnyH_ready (rs := [7]) (by kernel_rfl) (by simp) ?_
        refine AllReadyH.cons rfl (fun K hK => ?_) AllReadyH.nil
        have n0 := cell_blk N3 0
        have n1 := cell_blk N3 1
        have n2 := cell_blk N3 2
        have n3 := cell_blk N3 3
        simp at n0 n1 n2 n3
        have f0 := free_blk N3 0
        have f1 := free_blk N3 1
        have f2 := free_blk N3 2
        have f3 := free_blk N3 3
        have hfl := lt_of_blk N3
        go_simp
        clear n0 n1 n2 n3 f0 f1 f2 f3 hfl
        refine hK.out _ _ (KC.out _ (((((Only.setCell Q3 (.inr hfw) _).setCell (.inr hfw) _).setCell (.inr hfw) _).setCell (.inr hfw) _))) (fun hHeld => ?_)
        clear hK K
        try simp only [Act.put, sI]
        refine wpAnyH_done (by kernel_rfl) ?_ _
        clear hHeld
        go_wp2_with fail
        go_meet
        exact ⟨_, rfl, by
          have e := blk_setCell (blk_setCell (blk_setCell (blk_setCell N3 0 (.string ⟨(formAt i).word.toArray⟩)) 1 (.bool (formAt i).t)) 2 (.bool (formAt i).o)) 3 (.bool (formAt i).l)
          simpa only [List.setIfInBounds_toArray, List.set_cons_zero, List.set_cons_succ] using e, ((((Only.setCell Q3 (.inr hfw) _).setCell (.inr hfw) _).setCell (.inr hfw) _).setCell (.inr hfw) _)⟩
      · go_simp
        obtain ⟨V5, hV⟩ : ∃ V, V = V1.alloc (.cells #[.string ⟨#[]⟩, .bool false, .bool false, .bool false] 97) := ⟨_, rfl⟩
        try rw [← hV]
        obtain ⟨fb, hfb⟩ : ∃ fb, fb = V1.heap.size := ⟨_, rfl⟩
        try rw [← hfb]
        have N5 : V5.heap[fb]? = some (.cells #[.string ⟨#[]⟩, .bool false, .bool false, .bool false] 97 (0, 0)) := by rw [hV, hfb]; exact blk_alloc_new _ _
        have Q5 : Only [] W0 V5 := by rw [hV]; exact Only.alloc Q1 _
        have hfw : W0.heap.size ≤ fb := by rw [hfb]; exact (Q1).size
        have hb5 : V5.heap[b]? = some (.cells formsL.toArray 97 (0, 0)) := by rw [hV, blk_alloc_old (lt_of_blk hb)]; exact hb
        clear hV hfb
        refine hK.out _ _ (KC.out _ Q5) (fun hHeld => ?_)
        clear hK K
        try simp only [Act.put, sI]
        refine wpAnyH_ready (rs := [5]) (by kernel_rfl) (by simp) ?_
        refine AllReadyH.cons rfl (fun K hK => ?_) AllReadyH.nil
        obtain ⟨d0, d1, d2, d3⟩ := formsL_cells hb5 hi
        go_simp
        clear d0 d1 d2 d3
        refine hK.out _ _ (KC.out _ Q5) (fun hHeld => ?_)
        clear hK K
        try simp only [Act.put, sI]
        refine wpAnyH_ready (rs := [7]) (by kernel_rfl) (by simp) ?_
        refine AllReadyH.cons rfl (fun K hK => ?_) AllReadyH.nil
        have n0 := cell_blk N5 0
        have n1 := cell_blk N5 1
        have n2 := cell_blk N5 2
        have n3 := cell_blk N5 3
        simp at n0 n1 n2 n3
        have f0 := free_blk N5 0
        have f1 := free_blk N5 1
        have f2 := free_blk N5 2
        have f3 := free_blk N5 3
        have hfl := lt_of_blk N5
        go_simp
        clear n0 n1 n2 n3 f0 f1 f2 f3 hfl
        refine hK.out _ _ (KC.out _ (((((Only.setCell Q5 (.inr hfw) _).setCell (.inr hfw) _).setCell (.inr hfw) _).setCell (.inr hfw) _))) (fun hHeld => ?_)
        clear hK K
        try simp only [Act.put, sI]
        refine wpAnyH_done (by kernel_rfl) ?_ _
        clear hHeld
        go_wp2_with fail
        go_meet
        exact ⟨_, rfl, by
          have e := blk_setCell (blk_setCell (blk_setCell (blk_setCell N5 0 (.string ⟨(formAt i).word.toArray⟩)) 1 (.bool (formAt i).t)) 2 (.bool (formAt i).o)) 3 (.bool (formAt i).l)
          simpa only [List.setIfInBounds_toArray, List.set_cons_zero, List.set_cons_succ] using e, ((((Only.setCell Q5 (.inr hfw) _).setCell (.inr hfw) _).setCell (.inr hfw) _).setCell (.inr hfw) _)⟩
    · go_simp
      obtain ⟨V8, hV⟩ : ∃ V, V = W9.alloc (.cells #[.string ⟨#[]⟩, .bool false, .bool false, .bool false] 97) := ⟨_, rfl⟩
      try rw [← hV]
      obtain ⟨fb, hfb⟩ : ∃ fb, fb = W9.heap.size := ⟨_, rfl⟩
      try rw [← hfb]
      have N8 : V8.heap[fb]? = some (.cells #[.string ⟨#[]⟩, .bool false, .bool false, .bool false] 97 (0, 0)) := by rw [hV, hfb]; exact blk_alloc_new _ _
      have Q8 : Only [] W0 V8 := by rw [hV]; exact Only.alloc Q9 _
      have hfw : W0.heap.size ≤ fb := by rw [hfb]; exact (Q9).size
      clear hV hfb
      refine hK.out _ _ (KC.out _ Q8) (fun hHeld => ?_)
      clear hK K
      try simp only [Act.put, sI]
      refine wpAnyH_ready (rs := [0]) (by kernel_rfl) (by simp) ?_
      refine AllReadyH.cons rfl (fun K hK => ?_) AllReadyH.nil
      go_simp
      refine (forms_at _).mono ?_; rintro e V9 ⟨b, rfl, hb, hle, o⟩
      have Q9 := Only.then0 Q8 o
      have N9 := o.keep N8 (by simp)
      have hbl := lt_of_blk hb
      clear o
      refine hK.out _ _ (KC.out _ Q9) (fun hHeld => ?_)
      clear hK K
      try simp only [Act.put, sI]
      refine wpAnyH_take (i := 4) (v := ?_) rfl (by kernel_rfl) (by kernel_rfl) (by kernel_rfl) (fun _ _ _ h => h) (Or.inl ⟨by rfl, ?_⟩) (KC.out _ Q9) ?_
      rotate_left
      · (intro w hSw; (try dsimp only at hSw); go_simp; try with_reducible rfl)
      try simp only [Act.put, sI]
      refine wpAnyH_ready (rs := [5]) (by kernel_rfl) (by simp) ?_
      refine AllReadyH.cons rfl (fun K hK => ?_) AllReadyH.nil
      obtain ⟨d0, d1, d2, d3⟩ := formsL_cells hb hi
      go_simp
      clear d0 d1 d2 d3
      refine hK.out _ _ (KC.out _ Q9) (fun hHeld => ?_)
      clear hK K
      try simp only [Act.put, sI]
      refine wpAnyH_ready (rs := [7]) (by kernel_rfl) (by simp) ?_
      refine AllReadyH.cons rfl (fun K hK => ?_) AllReadyH.nil
      have n0 := cell_blk N9 0
      have n1 := cell_blk N9 1
      have n2 := cell_blk N9 2
      have n3 := cell_blk N9 3
      simp at n0 n1 n2 n3
      have f0 := free_blk N9 0
      have f1 := free_blk N9 1
      have f2 := free_blk N9 2
      have f3 := free_blk N9 3
      have hfl := lt_of_blk N9
      go_simp
      clear n0 n1 n2 n3 f0 f1 f2 f3 hfl
      refine hK.out _ _ (KC.out _ (((((Only.setCell Q9 (.inr hfw) _).setCell (.inr hfw) _).setCell (.inr hfw) _).setCell (.inr hfw) _))) (fun hHeld => ?_)
      clear hK K
      try simp only [Act.put, sI]
      refine wpAnyH_done (by kernel_rfl) ?_ _
      clear hHeld
      go_wp2_with fail
      go_meet
      exact ⟨_, rfl, by
        have e := blk_setCell (blk_setCell (blk_setCell (blk_setCell N9 0 (.string ⟨(formAt i).word.toArray⟩)) 1 (.bool (formAt i).t)) 2 (.bool (formAt i).o)) 3 (.bool (formAt i).l)
        simpa only [List.setIfInBounds_toArray, List.set_cons_zero, List.set_cons_succ] using e, ((((Only.setCell Q9 (.inr hfw) _).setCell (.inr hfw) _).setCell (.inr hfw) _).setCell (.inr hfw) _)⟩
    --REG>
  case rest =>
    obtain ⟨fb, rfl, hfb, ho⟩ := hcut
    obtain ⟨w1, hw1⟩ : ∃ w1, w1 = wc := ⟨_, rfl⟩
    subst hw1
    have FB := Lib.hid hfb
    have O1 := Lib.hid ho
    have c0 := cell_blk hfb 0
    have c1 := cell_blk hfb 1
    have c2 := cell_blk hfb 2
    have c3 := cell_blk hfb 3
    simp at c0 c1 c2 c3
    have hx := ho.keep HX.out (by simp)
    have d0 := cell_blk hx 0
    have d1 := cell_blk hx 1
    have d2 := cell_blk hx 2
    have d3 := cell_blk hx 3
    have d4 := cell_blk hx 4
    simp at d0 d1 d2 d3 d4
    clear hfb ho hx
    go_wp2_with fail
    refine (UF.out _).mono ?_; rintro e w2 ⟨rfl, o2⟩
    have O2 := Lib.hid (O1.out.then0 o2)
    clear c0 c1 c2 c3 d0 d1 d2 d3 d4
    have hx := O2.out.keep HX.out (by simp)
    have d0 := cell_blk hx 0
    have d1 := cell_blk hx 1
    have d2 := cell_blk hx 2
    have d3 := cell_blk hx 3
    have d4 := cell_blk hx 4
    simp at d0 d1 d2 d3 d4
    have hlx := lt_of_blk hx
    clear hx o2
    go_wp2_with fail
    refine (VF.out _).mono ?_; rintro e w3 ⟨rfl, o3⟩
    obtain ⟨ub, hub⟩ : ∃ ub, ub = w2.heap.size := ⟨_, rfl⟩
    rw [← hub]
    have HU := Lib.hid (show w3.heap[ub]? = some (.cells #[.bool true, .bool (formAt i).t, .bool (formAt i).o, .bool (formAt i).l] 95 (0, 0)) from by
      rw [hub]; exact o3.keep (blk_alloc_new w2 _) (by simp))
    have O3 := Lib.hid ((O2.out.alloc (.cells #[.bool true, .bool (formAt i).t, .bool (formAt i).o, .bool (formAt i).l] 95)).then0 o3)
    clear hub o3 d0 d1 d2 d3 d4 hlx
    go_wp2_with fail
    go_loopw [4, 6, 7, 20] (fun s _ _ r wr => ∃ (k : Nat) (LB : ByteArray), r = .int .i64 k ∧ k ≤ 4 ∧ s = .string LB ∧ LB = ⟨(lineTo ⟨(i : Int) + 1, wk, tk, ot, lv⟩ (formAt i) k).toArray⟩ ∧ LB.size ≤ 6 + 4 * k ∧ Only [] w3 wr) (fun _ _ _ r _ => 4 - (intOf r).toNat)
    case atStart => exact ⟨0, _, rfl, by omega, rfl, rfl, by rw [size_list]; exact word_len i, Only.refl _ _⟩
    case round =>
      obtain ⟨k, LB, rfl, hk4, rfl, hLB, hLs, ho⟩ := hrel
      obtain ⟨w4, hw4⟩ : ∃ w4, w4 = wr := ⟨_, rfl⟩
      subst hw4
      have OW := Lib.hid ho
      have HLB := Lib.hid hLB
      clear ho hLB
      by_cases hk : k < 4
      · have hix := idx_f ⟨(i : Int) + 1, wk, tk, ot, lv⟩ k hk
        have hcu : w4.cell? ⟨ub, k, none⟩ = some (.bool (usAt (formAt i) k)) := by
          rw [cell_blk (OW.out.keep HU.out (by simp))]
          rcases (show k = 0 ∨ k = 1 ∨ k = 2 ∨ k = 3 from by omega) with rfl | rfl | rfl | rfl <;> rfl
        have hxb := FL.out k hk
        obtain ⟨x, hx⟩ : ∃ x, x = flAt ⟨(i : Int) + 1, wk, tk, ot, lv⟩ k := ⟨_, rfl⟩
        obtain ⟨u, hu⟩ : ∃ u, u = usAt (formAt i) k := ⟨_, rfl⟩
        simp only at hix
        rw [← hx] at hix hxb
        rw [← hu] at hcu
        obtain ⟨IB, hIB⟩ : ∃ IB : ByteArray, IB = ⟨(Lib.itoa x).toArray⟩ := ⟨_, rfl⟩
        have hIs : IB.size ≤ 3 := by rw [hIB, size_list]; exact itoa_len hxb.1 hxb.2
        have SG : Hid (∀ R : ByteArray, (u = true → R = LB ++ (⟨#[32]⟩ ++ IB)) → (u = false → R = LB) → R = ⟨(lineTo ⟨(i : Int) + 1, wk, tk, ot, lv⟩ (formAt i) (k + 1)).toArray⟩) := Lib.hid (by
          intro R h1 h2
          have e : lineTo ⟨(i : Int) + 1, wk, tk, ot, lv⟩ (formAt i) (k + 1) = lineTo ⟨(i : Int) + 1, wk, tk, ot, lv⟩ (formAt i) k ++ (if u then 32 :: Lib.itoa x else []) := by rw [hu, hx]; rfl
          rw [e]
          cases u with
          | true => rw [h1 rfl, HLB.out, hIB, show (⟨#[32]⟩ : ByteArray) = ⟨[(32 : UInt8)].toArray⟩ from rfl, bytes_app, bytes_app]; rfl
          | false => rw [h2 rfl, HLB.out]; simp)
        have IT := itoa_any w4 (HL.out.keep0 ((O0.out.then0 O3.out).then0 OW.out)) x (by omega) (by omega)
        rw [← hIB] at IT
        have ITH := Lib.hid IT
        have h1s : (⟨#[32]⟩ : ByteArray).size = 1 := rfl
        clear hx hu hIB IT
        cases u with
        | true =>
          go_wp2_with fail
          refine ITH.out.mono ?_; rintro e w5 ⟨rfl, o5⟩
          have O5 := Lib.hid (OW.out.then0 o5)
          clear o5
          go_wp2_with fail
          go_roundw
          case rel => exact ⟨k + 1, _, by go_num, by omega, rfl, SG.out _ (fun _ => rfl) (fun h => by cases h), by rw [ByteArray.size_append, ByteArray.size_append, h1s]; omega, O5.out⟩
          case measure => simp [intOf]; omega
        | false =>
          go_wp2_with fail
          go_roundw
          case rel => exact ⟨k + 1, LB, by go_num, by omega, rfl, SG.out _ (fun h => by cases h) (fun _ => rfl), by omega, OW.out⟩
          case measure => simp [intOf]; omega
      · obtain rfl : k = 4 := by omega
        have h1s : (⟨#[10]⟩ : ByteArray).size = 1 := rfl
        go_wp2_with fail
        go_ret
        exact ⟨by rw [RES.out, HLB.out, ← bytes_app]; rfl, (O0.out.then0 O3.out).then0 OW.out⟩
end Go.Proofs.YtncnepmgmphanaaGreatDoor
