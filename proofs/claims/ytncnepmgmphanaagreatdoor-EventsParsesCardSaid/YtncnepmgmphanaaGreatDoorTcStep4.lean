/- A step of a machine of the reference, walked (printed by gen_step.py). No condition beside those named. -/
import Derived.Test.YtncnepmgmphanaaGreatDoorMg18
import Derived.Deep.DeepCutAuto
import Derived.Deep.LoopGhost
set_option linter.unusedVariables false
set_option linter.unusedSimpArgs false
set_option linter.unusedSectionVars false
namespace Go.Proofs.YtncnepmgmphanaaGreatDoor
open Go.RowKit
variable [Inhabited cK] {sh : Sh} {B N T : Nat} {w w' : World} {rb cr mb : Nat}
theorem Ur {cs : List Value} (h : cs.length = 18) : (Tryz.prog.info? 118).map (·.size) = some cs.toArray.size := by rw [List.size_toArray, h]; exact rT
theorem Kv {w : World} {cs : List Value} (h : bJ w B N ax cs) : cs.toArray.all (·.oneCell') = true := all_oneCell_toArray h.one
theorem xy {w : World} {cs : List Value} (h : bJ w B N ax cs) : cs.length = 18 := by rw [← h.len]; rfl
set_option maxRecDepth 100000 in
set_option maxHeartbeats 4000000 in
theorem aeP {di n0 cap0 : Nat} {κ0 : Nat → Int} {c2 c3 : Int} (hM : MR sh T rb w mb n0 κ0 di cap0 c2 c3) (ee : EE sh B N T w) (wt : WT kd.sig B N w) (bw : B ≤ w.heap.size) (bm : B ≤ mb) (hfl : di < w.heap.size) (h8 : 8 ≤ N) (fM : N + 60 ≤ 68719476736) (hrb : sh.el 19 = .slice (some ⟨rb, 0, none⟩) T cr) :
   Calls Tryz.prog 56 #[.pointer (some ⟨mb, 0, none⟩), .pointer (some ⟨sh.pe, 0, none⟩)] w (Av sh T rb B (N + 40) w mb di) := by
 have S0 := SL.ajb hM ee wt bw bm hfl
 obtain ⟨ln0, F0⟩ := hM.last
 have c1 : w.cell? ⟨mb, 1, none⟩ = some (.bool false) := by rw [aa hM.fF]; rfl
 have dN := Lib.hid (And.intro hrb (And.intro fM bw))
 have START : Hid (∃ n κ fb cap N' ln, SL sh B T rb w mb di N' w n κ fb cap c2 c3 ∧ FI T w fb n (κ n) ln ∧ rank (κ n) < 10 ∧ N' + rank (κ n) ≤ N + 4 ∧ 8 ≤ N') := Lib.hid ⟨n0, κ0, di, cap0, N, ln0, S0, F0, by have := I6 (κ0 n0); omega, by have := I6 (κ0 n0); omega, h8⟩
 clear hM ee wt bw hfl h8 fM hrb S0 F0
 go_enter Tryz.func56, Tryz.ntmps56
 go_wp2_with fail
 go_loopg [5] 10 (fun k _ wr => ∃ n κ fb cap N' ln, SL sh B T rb w mb di N' wr n κ fb cap c2 c3 ∧ FI T wr fb n (κ n) ln ∧ rank (κ n) < k ∧ N' + rank (κ n) ≤ N + 4 ∧ 8 ≤ N')
 case atStart => exact START.out
 case round =>
   obtain ⟨n, κ, fb, cap, N', ln, S, F, hk, hN', h8⟩ := hrel
   obtain ⟨m, hm⟩ : ∃ m, m = n + 1 := ⟨_, rfl⟩
   have c0 := S.c0
   rw [← hm] at c0
   have hnl : n ≤ 4 := by have := S.small; omega
   have hwm : IntKind.i64.wrap ((m : Int) - 1) = (n : Int) := by
     rw [IntWalk.i64_in _ (by omega)]; omega
   have hn0 : (0 : Int) ≤ (n : Int) := by omega
   have hnm : (n : Int) < (m : Int) := by omega
   have hnm' : n < m := by omega
   obtain ⟨hrb, fM, hBw⟩ := dN.out
   have EN := Lib.hid (fun w1 E1 W1 => S.enter hrb (by omega) F w1 E1 W1)
   have HS := Lib.hid (And.intro S (And.intro F (And.intro hk (And.intro hN' (And.intro h8 hm)))))
   clear hrb fM hBw S F hk hN' h8 hm
   go_upto_region 3 with fail
   go_cut [5, 6] (fun s5 s6 wx => ∃ xb cs ok, s5 = .pointer (some ⟨xb, 0, none⟩) ∧ s6 = .bool ok ∧ E3 sh B T rb w mb di (N' + 1) wx n κ fb cap c2 c3 cs ok xb)
   case first =>
     obtain ⟨S, F, hk, hN', h8, hm⟩ := HS.out
     obtain ⟨hrb, fM, hBw⟩ := dN.out
     obtain ⟨cur, -, f2, -⟩ := S.blk
     have hfl := aK f2
     have hws := S.aS.size
     have Oo := S.A8
     have hmf := tZ S.fF f2
     have SW := S.wt
     have HC := Lib.hid (And.intro hrb hBw)
     clear S F hk hN' h8 hm hrb fM f2
     refine wp_region_held_drew (S := fun w' => w'.cell? ⟨mb, 0, none⟩ = some (.slice (some ⟨fb, 0, none⟩) m cap)) (by kernel_rfl) c0 (fun hHeld => ?_)
     refine wpAnyH_take (i := 0) (v := ?_) rfl (by kernel_rfl) (by kernel_rfl) (by kernel_rfl) (fun _ _ _ h => h) (Or.inl ⟨by rfl, ?_⟩) (by assumption) ?_
     rotate_left
     · (intro w hSw; (try dsimp only at hSw); go_simp; try with_reducible rfl)
     try simp only [Act.put, sI]
     refine wpAnyH_take (i := 1) (v := ?_) rfl (by kernel_rfl) (by kernel_rfl) (by kernel_rfl) (fun _ _ _ h => h) (Or.inl ⟨by rfl, ?_⟩) (by assumption) ?_
     rotate_left
     · (intro w hSw; (try dsimp only at hSw); go_simp; try with_reducible rfl)
     try simp only [Act.put, sI]
     refine wpAnyH_take (i := 2) (v := ?_) rfl (by kernel_rfl) (by kernel_rfl) (by kernel_rfl) (fun _ _ _ h => h) (Or.inl ⟨by rfl, ?_⟩) (by assumption) ?_
     rotate_left
     · (intro w hSw; (try dsimp only at hSw); go_simp; try with_reducible rfl)
     try simp only [Act.put, sI]
     refine wpAnyH_take (i := 3) (v := ?_) rfl (by kernel_rfl) (by kernel_rfl) (by kernel_rfl) (fun _ _ _ h => h) (Or.inl ⟨by rfl, ?_⟩) (by assumption) ?_
     rotate_left
     · (intro w hSw; (try dsimp only at hSw); go_simp; try with_reducible rfl)
     try simp only [Act.put, sI]
     refine wpAnyH_take (i := 4) (v := ?_) rfl (by kernel_rfl) (by kernel_rfl) (by kernel_rfl) (fun _ _ _ h => h) (Or.inl ⟨by rfl, ?_⟩) (by assumption) ?_
     rotate_left
     · (intro w hSw; (try dsimp only at hSw); go_simp; try with_reducible rfl)
     try simp only [Act.put, sI]
     refine wpAnyH_take (i := 5) (v := ?_) rfl (by kernel_rfl) (by kernel_rfl) (by kernel_rfl) (fun _ _ _ h => h) (Or.inl ⟨by rfl, ?_⟩) (by assumption) ?_
     rotate_left
     · (intro w hSw; (try dsimp only at hSw); go_simp; try with_reducible rfl)
     try simp only [Act.put, sI]
     refine wpAnyH_take (i := 6) (v := ?_) rfl (by kernel_rfl) (by kernel_rfl) (by kernel_rfl) (fun _ _ _ h => h) (Or.inl ⟨by rfl, ?_⟩) (by assumption) ?_
     rotate_left
     · (intro w hSw; (try dsimp only at hSw); go_simp; try with_reducible rfl)
     try simp only [Act.put, sI]
     refine wpAnyH_take (i := 7) (v := ?_) rfl (by kernel_rfl) (by kernel_rfl) (by kernel_rfl) (fun _ _ _ h => h) (Or.inl ⟨by rfl, ?_⟩) (by assumption) ?_
     rotate_left
     · (intro w hSw; (try dsimp only at hSw); go_simp; try with_reducible rfl)
     try simp only [Act.put, sI]
     refine wpAnyH_take (i := 8) (v := ?_) rfl (by kernel_rfl) (by kernel_rfl) (by kernel_rfl) (fun _ _ _ h => h) (Or.inl ⟨by rfl, ?_⟩) (by assumption) ?_
     rotate_left
     · (intro w hSw; (try dsimp only at hSw); go_simp; try with_reducible rfl)
     try simp only [Act.put, sI]
     refine wpAnyH_take (i := 9) (v := ?_) rfl (by kernel_rfl) (by kernel_rfl) (by kernel_rfl) (fun _ _ _ h => h) (Or.inl ⟨by rfl, ?_⟩) (by assumption) ?_
     rotate_left
     · (intro w hSw; (try dsimp only at hSw); go_simp; try with_reducible rfl)
     try simp only [Act.put, sI]
     refine wpAnyH_take (i := 10) (v := ?_) rfl (by kernel_rfl) (by kernel_rfl) (by kernel_rfl) (fun _ _ _ h => h) (Or.inl ⟨by rfl, ?_⟩) (by assumption) ?_
     rotate_left
     · (intro w hSw; (try dsimp only at hSw); go_simp; try with_reducible rfl)
     try simp only [Act.put, sI]
     refine wpAnyH_take (i := 11) (v := ?_) rfl (by kernel_rfl) (by kernel_rfl) (by kernel_rfl) (fun _ _ _ h => h) (Or.inl ⟨by rfl, ?_⟩) (by assumption) ?_
     rotate_left
     · (intro w hSw; (try dsimp only at hSw); go_simp; try with_reducible rfl)
     try simp only [Act.put, sI]
     refine wpAnyH_ready (rs := [12, 16]) (by kernel_rfl) (by simp) ?_
     refine AllReadyH.cons rfl (fun K hK => ?_) (AllReadyH.cons rfl (fun K hK => ?_) AllReadyH.nil)
     · go_simp
       refine (EN.out _ ((Eff.refl _ _).drew) (SW.drew)).mono ?_
       rintro e w1 ⟨cs, ok, rfl, ep, hE⟩
       have s1 : wr.heap.size ≤ w1.heap.size := hE.size
       have d0 := ep.sl.c0
       have e9 : n + 1 = m := HS.out.2.2.2.2.2.symm
       rw [e9] at d0
       have hl := xy ep.all
       have hone := Kv ep.all
       have EP1 := Lib.hid ep
       clear ep hE e9
       refine hK.out _ _ d0 (fun hHeld => ?_)
       clear hK K
       try simp only [Act.put, sI]
       refine wpAnyH_take (i := 13) (v := ?_) rfl (by kernel_rfl) (by kernel_rfl) (by kernel_rfl) (fun _ _ _ h => h) (Or.inl ⟨by rfl, ?_⟩) (by assumption) ?_
       rotate_left
       · (intro w hSw; (try dsimp only at hSw); go_simp; try with_reducible rfl)
       try simp only [Act.put, sI]
       refine wpAnyH_take (i := 14) (v := ?_) rfl (by kernel_rfl) (by kernel_rfl) (by kernel_rfl) (fun _ _ _ h => h) (Or.inl ⟨by rfl, ?_⟩) (by assumption) ?_
       rotate_left
       · (intro w hSw; (try dsimp only at hSw); go_simp; try with_reducible rfl)
       try simp only [Act.put, sI]
       refine wpAnyH_take (i := 15) (v := ?_) rfl (by kernel_rfl) (by kernel_rfl) (by kernel_rfl) (fun _ _ _ h => h) (Or.inl ⟨by rfl, ?_⟩) (by assumption) ?_
       rotate_left
       · (intro w hSw; (try dsimp only at hSw); go_simp; try with_reducible rfl)
       try simp only [Act.put, sI]
       refine wpAnyH_ready (rs := [16]) (by kernel_rfl) (by simp) ?_
       refine AllReadyH.cons rfl (fun K hK => ?_) AllReadyH.nil
       go_simp
       obtain ⟨w2, hw2⟩ : ∃ w2, w2 = w1.alloc (.cells dm 118) := ⟨_, rfl⟩
       obtain ⟨xb, hxb⟩ : ∃ xb, xb = w1.heap.size := ⟨_, rfl⟩
       have EPX : Hid (EP sh B T rb w mb di (N' + 1) w2 n κ fb cap c2 c3 cs ok) := Lib.hid (EP1.out.out HC.out.1 (Nat.le_refl _) (by rw [hw2]; exact EP1.out.sl.wt.alloc kF (aT.one (ER _))) (by rw [hw2]; exact Eff.bL _ _ _))
       have ZX : Hid (w2.heap[xb]? = some (.cells dm 118 (0, 0))) := Lib.hid (by rw [hw2, hxb]; exact blk_alloc_new _ _)
       have d1 := EPX.out.sl.c0
       have e9 : n + 1 = m := HS.out.2.2.2.2.2.symm
       rw [e9] at d1
       unfold dm at hw2
       rw [← hw2, ← hxb]
       have hxw : wr.heap.size ≤ xb := by omega
       clear hw2 hxb EP1 d0 e9
       refine hK.out _ _ d1 (fun hHeld => ?_)
       clear hK K
       try simp only [Act.put, sI]
       refine wpAnyH_ready (rs := [17]) (by kernel_rfl) (by simp) ?_
       refine AllReadyH.cons rfl (fun K hK => ?_) AllReadyH.nil
       rw [if_pos (by rfl)]
       refine wp_store_mid 118 (.tmp 5) (.tmp 26) rfl xb 0 cs.toArray rfl rfl (Je ZX.out hl) (Ur hl) hone ?_
       obtain ⟨wx, hwx⟩ : ∃ wx, wx = w2.setCells xb 0 cs.toArray.toList := ⟨_, rfl⟩
       rw [← hwx]
       have Gu := E3.mk' EPX.out HC.out.1 ZX.out (by omega) (by omega) HC.out.2
       rw [show w2.setCells xb 0 cs = wx by rw [hwx]] at Gu
       have d9 := Gu.ep.sl.c0
       have e9 : n + 1 = m := HS.out.2.2.2.2.2.symm
       rw [e9] at d9
       have EX := Lib.hid Gu
       clear Gu hwx e9
       refine hK.out _ _ d9 (fun hHeld => ?_)
       clear hK K
       try simp only [Act.put, sI]
       refine wpAnyH_ready (rs := [18]) (by kernel_rfl) (by simp) ?_
       refine AllReadyH.cons rfl (fun K hK => ?_) AllReadyH.nil
       go_simp
       refine hK.out _ _ d9 (fun hHeld => ?_)
       clear hK K
       try simp only [Act.put, sI]
       refine wpAnyH_done (by kernel_rfl) ?_ _
       go_wp2_with fail
       go_meet
       exact ⟨_, cs, ok, rfl, rfl, EX.out⟩
     · go_simp
       obtain ⟨w1, hw1⟩ : ∃ w1, w1 = (wr.alloc (.cells dm 118)).drew := ⟨_, rfl⟩
       obtain ⟨xb, hxb⟩ : ∃ xb, xb = wr.heap.size := ⟨_, rfl⟩
       have E1 : Eff (fun _ _ _ => False) wr w1 := by rw [hw1]; exact ((Eff.bL _ wr _).drew)
       have W1 : WT kd.sig B N' w1 := by rw [hw1]; exact (SW.alloc kF (aT.one (ER _))).drew
       have Z1 : Hid (w1.heap[xb]? = some (.cells dm 118 (0, 0))) := Lib.hid (by rw [hw1, hxb]; exact blk_alloc_new wr _)
       have d0 := E1.cell c0 fun _ h => h
       have s1 : w1.heap.size = wr.heap.size + 1 := by rw [hw1]; show (wr.alloc _).heap.size = _; simp
       have EE1 := Lib.hid (EN.out w1 E1 W1)
       unfold dm at hw1
       try rw [← hw1]
       try rw [← hxb]
       have hxw : wr.heap.size ≤ xb := by omega
       have hx1 : xb < w1.heap.size := by omega
       clear hw1 hxb E1 W1 s1
       refine hK.out _ _ d0 (fun hHeld => ?_)
       clear hK K
       try simp only [Act.put, sI]
       refine wpAnyH_ready (rs := [12]) (by kernel_rfl) (by simp) ?_
       refine AllReadyH.cons rfl (fun K hK => ?_) AllReadyH.nil
       go_simp
       refine EE1.out.mono ?_
       rintro e w2 ⟨cs, ok, rfl, ep, hE⟩
       have d1 := ep.sl.c0
       have e9 : n + 1 = m := HS.out.2.2.2.2.2.symm
       rw [e9] at d1
       have hl := xy ep.all
       have hone := Kv ep.all
       have ZX : Hid (w2.heap[xb]? = some (.cells dm 118 (0, 0))) := Lib.hid (by
         obtain ⟨c', h1, h2, h3⟩ := hE.cells _ _ _ _ Z1.out
         rw [h1]
         congr 2
         refine kK fun j => h3 j ?_
         rintro (hx | ⟨hx, -⟩ | ⟨hx, -⟩)
         · omega
         · omega
         · exact hx rfl)
       have EPX := Lib.hid ep
       clear ep hE Z1 d0 e9
       refine hK.out _ _ d1 (fun hHeld => ?_)
       clear hK K
       try simp only [Act.put, sI]
       refine wpAnyH_take (i := 13) (v := ?_) rfl (by kernel_rfl) (by kernel_rfl) (by kernel_rfl) (fun _ _ _ h => h) (Or.inl ⟨by rfl, ?_⟩) (by assumption) ?_
       rotate_left
       · (intro w hSw; (try dsimp only at hSw); go_simp; try with_reducible rfl)
       try simp only [Act.put, sI]
       refine wpAnyH_take (i := 14) (v := ?_) rfl (by kernel_rfl) (by kernel_rfl) (by kernel_rfl) (fun _ _ _ h => h) (Or.inl ⟨by rfl, ?_⟩) (by assumption) ?_
       rotate_left
       · (intro w hSw; (try dsimp only at hSw); go_simp; try with_reducible rfl)
       try simp only [Act.put, sI]
       refine wpAnyH_take (i := 15) (v := ?_) rfl (by kernel_rfl) (by kernel_rfl) (by kernel_rfl) (fun _ _ _ h => h) (Or.inl ⟨by rfl, ?_⟩) (by assumption) ?_
       rotate_left
       · (intro w hSw; (try dsimp only at hSw); go_simp; try with_reducible rfl)
       try simp only [Act.put, sI]
       refine wpAnyH_ready (rs := [17]) (by kernel_rfl) (by simp) ?_
       refine AllReadyH.cons rfl (fun K hK => ?_) AllReadyH.nil
       rw [if_pos (by rfl)]
       refine wp_store_mid 118 (.tmp 5) (.tmp 26) rfl xb 0 cs.toArray rfl rfl (Je ZX.out hl) (Ur hl) hone ?_
       obtain ⟨wx, hwx⟩ : ∃ wx, wx = w2.setCells xb 0 cs.toArray.toList := ⟨_, rfl⟩
       rw [← hwx]
       have Gu := E3.mk' EPX.out HC.out.1 ZX.out (by omega) (by omega) HC.out.2
       rw [show w2.setCells xb 0 cs = wx by rw [hwx]] at Gu
       have d9 := Gu.ep.sl.c0
       have e9 : n + 1 = m := HS.out.2.2.2.2.2.symm
       rw [e9] at d9
       have EX := Lib.hid Gu
       clear Gu hwx e9
       refine hK.out _ _ d9 (fun hHeld => ?_)
       clear hK K
       try simp only [Act.put, sI]
       refine wpAnyH_ready (rs := [18]) (by kernel_rfl) (by simp) ?_
       refine AllReadyH.cons rfl (fun K hK => ?_) AllReadyH.nil
       go_simp
       refine hK.out _ _ d9 (fun hHeld => ?_)
       clear hK K
       try simp only [Act.put, sI]
       refine wpAnyH_done (by kernel_rfl) ?_ _
       go_wp2_with fail
       go_meet
       exact ⟨_, cs, ok, rfl, rfl, EX.out⟩
   case rest =>
     obtain ⟨xb, cs, ok, rfl, rfl, e3⟩ := hcut
     obtain ⟨hrb, fM, hBw⟩ := dN.out
     have e9 : n + 1 = m := HS.out.2.2.2.2.2.symm
     cases ok with
     | true =>
       have hl := xy e3.ep.all
       obtain ⟨v1, hv1⟩ : ∃ v1, wc.cell? ⟨xb, 1, none⟩ = some v1 := by
         rw [aa e3.box]
         exact ⟨_, Array.getElem?_eq_getElem (by simp; omega)⟩
       have fz1 := ay e3.box 1
       have E1 := Lib.hid (e3.aje hrb)
       clear e3 hrb fM hBw c0 EN
       go_upto_region 6 with fail
       obtain ⟨wy, hwy⟩ : ∃ wy, wy = wc.setCell ⟨xb, 1, none⟩ (.int .i64 1) := ⟨_, rfl⟩
       obtain ⟨cz, hcz⟩ : ∃ cz, cz = cs.set 1 (.int .i64 1) := ⟨_, rfl⟩
       have E2 : Hid (E3 sh B T rb w mb di (N' + 1) wy n κ fb cap c2 c3 cz true xb ∧ cz[1]? = some (.int .i64 1)) := Lib.hid ⟨by rw [hwy, hcz]; exact E1.out, by rw [hcz, List.getElem?_set, if_pos rfl, if_pos (by omega)]⟩
       rw [← hwy]
       have hlz : cz.length = 18 := by rw [hcz]; simp [hl]
       clear hwy hcz E1 hv1 fz1 hl
       have W4 := Lib.hid (show Eff (fun _ _ _ => False) wy wy.drew from (Eff.refl _ _).drew)
       obtain ⟨wq, hwq⟩ : ∃ wq, wq = wy.drew := ⟨_, rfl⟩
       have EQ : Hid (EP sh B T rb w mb di (N' + 1) wq n κ fb cap c2 c3 cz true ∧ wq.rangeAt xb 0 cz) := Lib.hid ⟨by rw [hwq]; exact E2.out.1.ep.out dN.out.1 (Nat.le_refl _) E2.out.1.ep.sl.wt.drew (W4.out.mono fun _ _ _ _ h => h.elim), by rw [hwq]; exact dE (W4.out.blk E2.out.1.box fun _ _ h => h)⟩
       have dq := EQ.out.1.sl.c0
       have rq := Lib.hid EQ.out.2
       rw [e9] at dq
       refine wp_region_any (by kernel_rfl) ?_
       change wpAny _ _ _ _ _ _ _ wy.drew
       rw [← hwq]
       clear hwq W4
       refine wpAny_take (i := 0) (v := ?_) rfl (by kernel_rfl) (by kernel_rfl) (by kernel_rfl) (fun _ _ _ h => h) (Or.inl ⟨by rfl, ?_⟩) ?_
       rotate_left
       · (intro w; go_simp; try with_reducible rfl)
       try simp only [Act.put, sI]
       refine wpAny_take (i := 1) (v := ?_) rfl (by kernel_rfl) (by kernel_rfl) (by kernel_rfl) (fun _ _ _ h => h) (Or.inl ⟨by rfl, ?_⟩) ?_
       rotate_left
       · (intro w; go_simp; try with_reducible rfl)
       try simp only [Act.put, sI]
       refine wpAny_take (i := 2) (v := ?_) rfl (by kernel_rfl) (by kernel_rfl) (by kernel_rfl) (fun _ _ _ h => h) (Or.inl ⟨by rfl, ?_⟩) ?_
       rotate_left
       · (intro w; go_simp; try with_reducible rfl)
       try simp only [Act.put, sI]
       refine wpAny_take (i := 3) (v := ?_) rfl (by kernel_rfl) (by kernel_rfl) (by kernel_rfl) (fun _ _ _ h => h) (Or.inl ⟨by rfl, ?_⟩) ?_
       rotate_left
       · (intro w; go_simp; try with_reducible rfl)
       try simp only [Act.put, sI]
       refine wpAny_ready (rs := [4, 5]) (by kernel_rfl) (by simp) ?_
       refine AllReady.cons rfl (fun K hK => ?_) (AllReady.cons rfl (fun K hK => ?_) AllReady.nil)
       · go_simp
         refine hK _ _ ?_
         clear hK K
         try simp only [Act.put, sI]
         refine wpAny_ready (rs := [5]) (by kernel_rfl) (by simp) ?_
         refine AllReady.cons rfl (fun K hK => ?_) AllReady.nil
         rw [if_pos (by rfl)]
         refine wp_load_mid 118 (.tmp 5) rfl xb 0 rfl cz _ rq.out rfl rfl (by rw [hlz]; exact rT) ?_
         refine hK _ _ ?_
         clear hK K
         try simp only [Act.put, sI]
         refine wpAny_ready (rs := [6]) (by kernel_rfl) (by simp) ?_
         refine AllReady.cons rfl (fun K hK => ?_) AllReady.nil
         rw [if_pos (by rfl)]
         refine tL (cs := cz) rfl rfl hlz ?_
         obtain ⟨wz, hwz⟩ : ∃ wz, wz = wq.alloc (.cells cz.toArray 118) := ⟨_, rfl⟩
         obtain ⟨ab, hab⟩ : ∃ ab, ab = wq.heap.size := ⟨_, rfl⟩
         have EZ : Hid (EP sh B T rb w mb di (N' + 1) wz n κ fb cap c2 c3 cz true ∧ wz.heap[ab]? = some (.cells cz.toArray 118 (0, 0))) := Lib.hid ⟨by rw [hwz]; exact EQ.out.1.out dN.out.1 (Nat.le_refl _) (EQ.out.1.sl.wt.alloc kF (aT.one (l := cz) EQ.out.1.all)) (Eff.bL _ _ _), by rw [hwz, hab]; exact blk_alloc_new _ _⟩
         have dz := EZ.out.1.sl.c0
         rw [e9] at dz
         rw [← hwz, ← hab]
         clear hwz hab
         refine hK _ _ ?_
         clear hK K
         try simp only [Act.put, sI]
         refine wpAny_ready (rs := [7]) (by kernel_rfl) (by simp) ?_
         refine AllReady.cons rfl (fun K hK => ?_) AllReady.nil
         rw [if_pos (by rfl)]
         obtain ⟨cur, g1, g2, g3, g4, g5, g6⟩ := EZ.out.1.sl.blk
         refine vY (B := B) (N := N' + 1) (cs := cz) (g := fb) (n := m) (cap := cap) (b := ab) (cur := cur) rfl rfl rfl EZ.out.1.sl.wt EZ.out.1.sl.bw g1 g2 (by omega) g4 g5 EZ.out.1.all EZ.out.2 (by omega) ?_
         intro dP cap' w5 A
         have tq := A.aS.blk EZ.out.1.sl.fF fun _ _ hx => tZ EZ.out.1.sl.fF g2 hx.1
         have d5 : w5.cell? ⟨mb, 0, none⟩ = some (.slice (some ⟨fb, 0, none⟩) m cap) := by rw [aa tq, e9]; rfl
         have f5 := ay tq 0
         have PU := Lib.hid (show ∃ c κ', rank c < rank (κ n) ∧ SL sh B T rb w mb di (N' + 1) (w5.setCell ⟨mb, 0, none⟩ (.slice (some ⟨dP, 0, none⟩) (m + 1) cap')) m κ' dP cap' c2 c3 ∧ FI T (w5.setCell ⟨mb, 0, none⟩ (.slice (some ⟨dP, 0, none⟩) (m + 1) cap')) dP m c 1 ∧ κ' m = c from by
           obtain ⟨c, h0, hP, yc⟩ := EZ.out.1.yes rfl
           obtain ⟨κ', -, k2, s1, s2⟩ := EZ.out.1.sl.push dN.out.1 (by have := HS.out.2.2.2.2.1; omega) hP EZ.out.1.all h0 E2.out.2 yc (by rw [e9]; exact A)
           rw [e9] at s1 s2 k2
           exact ⟨c, κ', hP.rk, s1, s2, k2⟩)
         clear A tq g1 g2 g3 g4 g5 g6
         refine hK _ _ ?_
         clear hK K
         try simp only [Act.put, sI]
         refine wpAny_take (i := 8) (v := ?_) rfl (by kernel_rfl) (by kernel_rfl) (by kernel_rfl) (fun _ _ _ h => h) (Or.inl ⟨by rfl, ?_⟩) ?_
         rotate_left
         · (intro w; go_simp; try with_reducible rfl)
         try simp only [Act.put, sI]
         refine wpAny_take (i := 9) (v := ?_) rfl (by kernel_rfl) (by kernel_rfl) (by kernel_rfl) (fun _ _ _ h => h) (Or.inl ⟨by rfl, ?_⟩) ?_
         rotate_left
         · (intro w; go_simp; try with_reducible rfl)
         try simp only [Act.put, sI]
         refine wpAny_ready (rs := [10]) (by kernel_rfl) (by simp) ?_
         refine AllReady.cons rfl (fun K hK => ?_) AllReady.nil
         go_simp
         refine hK _ _ ?_
         clear hK K
         try simp only [Act.put, sI]
         refine wpAny_done (by kernel_rfl) ?_ _
         obtain ⟨c, κ', k1, s1, s2, k2⟩ := PU.out
         go_wp2_with fail
         go_roundg (rank c + 1)
         case measure =>
           have := HS.out.2.2.1
           omega
         case rel =>
           have h1 := HS.out.2.2.2.1
           have h2 := HS.out.2.2.2.2.1
           exact ⟨m, κ', dP, cap', N' + 1, 1, s1, by rw [k2]; exact s2, by rw [k2]; omega, by rw [k2]; omega, by omega⟩
       · rw [if_pos (by rfl)]
         refine wp_load_mid 118 (.tmp 5) rfl xb 0 rfl cz _ rq.out rfl rfl (by rw [hlz]; exact rT) ?_
         refine hK _ _ ?_
         clear hK K
         try simp only [Act.put, sI]
         refine wpAny_ready (rs := [4, 6]) (by kernel_rfl) (by simp) ?_
         refine AllReady.cons rfl (fun K hK => ?_) (AllReady.cons rfl (fun K hK => ?_) AllReady.nil)
         · go_simp
           refine hK _ _ ?_
           clear hK K
           try simp only [Act.put, sI]
           refine wpAny_ready (rs := [6]) (by kernel_rfl) (by simp) ?_
           refine AllReady.cons rfl (fun K hK => ?_) AllReady.nil
           rw [if_pos (by rfl)]
           refine tL (cs := cz) rfl rfl hlz ?_
           obtain ⟨wz, hwz⟩ : ∃ wz, wz = wq.alloc (.cells cz.toArray 118) := ⟨_, rfl⟩
           obtain ⟨ab, hab⟩ : ∃ ab, ab = wq.heap.size := ⟨_, rfl⟩
           have EZ : Hid (EP sh B T rb w mb di (N' + 1) wz n κ fb cap c2 c3 cz true ∧ wz.heap[ab]? = some (.cells cz.toArray 118 (0, 0))) := Lib.hid ⟨by rw [hwz]; exact EQ.out.1.out dN.out.1 (Nat.le_refl _) (EQ.out.1.sl.wt.alloc kF (aT.one (l := cz) EQ.out.1.all)) (Eff.bL _ _ _), by rw [hwz, hab]; exact blk_alloc_new _ _⟩
           have dz := EZ.out.1.sl.c0
           rw [e9] at dz
           rw [← hwz, ← hab]
           clear hwz hab
           refine hK _ _ ?_
           clear hK K
           try simp only [Act.put, sI]
           refine wpAny_ready (rs := [7]) (by kernel_rfl) (by simp) ?_
           refine AllReady.cons rfl (fun K hK => ?_) AllReady.nil
           rw [if_pos (by rfl)]
           obtain ⟨cur, g1, g2, g3, g4, g5, g6⟩ := EZ.out.1.sl.blk
           refine vY (B := B) (N := N' + 1) (cs := cz) (g := fb) (n := m) (cap := cap) (b := ab) (cur := cur) rfl rfl rfl EZ.out.1.sl.wt EZ.out.1.sl.bw g1 g2 (by omega) g4 g5 EZ.out.1.all EZ.out.2 (by omega) ?_
           intro dP cap' w5 A
           have tq := A.aS.blk EZ.out.1.sl.fF fun _ _ hx => tZ EZ.out.1.sl.fF g2 hx.1
           have d5 : w5.cell? ⟨mb, 0, none⟩ = some (.slice (some ⟨fb, 0, none⟩) m cap) := by rw [aa tq, e9]; rfl
           have f5 := ay tq 0
           have PU := Lib.hid (show ∃ c κ', rank c < rank (κ n) ∧ SL sh B T rb w mb di (N' + 1) (w5.setCell ⟨mb, 0, none⟩ (.slice (some ⟨dP, 0, none⟩) (m + 1) cap')) m κ' dP cap' c2 c3 ∧ FI T (w5.setCell ⟨mb, 0, none⟩ (.slice (some ⟨dP, 0, none⟩) (m + 1) cap')) dP m c 1 ∧ κ' m = c from by
             obtain ⟨c, h0, hP, yc⟩ := EZ.out.1.yes rfl
             obtain ⟨κ', -, k2, s1, s2⟩ := EZ.out.1.sl.push dN.out.1 (by have := HS.out.2.2.2.2.1; omega) hP EZ.out.1.all h0 E2.out.2 yc (by rw [e9]; exact A)
             rw [e9] at s1 s2 k2
             exact ⟨c, κ', hP.rk, s1, s2, k2⟩)
           clear A tq g1 g2 g3 g4 g5 g6
           refine hK _ _ ?_
           clear hK K
           try simp only [Act.put, sI]
           refine wpAny_take (i := 8) (v := ?_) rfl (by kernel_rfl) (by kernel_rfl) (by kernel_rfl) (fun _ _ _ h => h) (Or.inl ⟨by rfl, ?_⟩) ?_
           rotate_left
           · (intro w; go_simp; try with_reducible rfl)
           try simp only [Act.put, sI]
           refine wpAny_take (i := 9) (v := ?_) rfl (by kernel_rfl) (by kernel_rfl) (by kernel_rfl) (fun _ _ _ h => h) (Or.inl ⟨by rfl, ?_⟩) ?_
           rotate_left
           · (intro w; go_simp; try with_reducible rfl)
           try simp only [Act.put, sI]
           refine wpAny_ready (rs := [10]) (by kernel_rfl) (by simp) ?_
           refine AllReady.cons rfl (fun K hK => ?_) AllReady.nil
           go_simp
           refine hK _ _ ?_
           clear hK K
           try simp only [Act.put, sI]
           refine wpAny_done (by kernel_rfl) ?_ _
           obtain ⟨c, κ', k1, s1, s2, k2⟩ := PU.out
           go_wp2_with fail
           go_roundg (rank c + 1)
           case measure =>
             have := HS.out.2.2.1
             omega
           case rel =>
             have h1 := HS.out.2.2.2.1
             have h2 := HS.out.2.2.2.2.1
             exact ⟨m, κ', dP, cap', N' + 1, 1, s1, by rw [k2]; exact s2, by rw [k2]; omega, by rw [k2]; omega, by omega⟩
         · rw [if_pos (by rfl)]
           refine tL (cs := cz) rfl rfl hlz ?_
           obtain ⟨wz, hwz⟩ : ∃ wz, wz = wq.alloc (.cells cz.toArray 118) := ⟨_, rfl⟩
           obtain ⟨ab, hab⟩ : ∃ ab, ab = wq.heap.size := ⟨_, rfl⟩
           have EZ : Hid (EP sh B T rb w mb di (N' + 1) wz n κ fb cap c2 c3 cz true ∧ wz.heap[ab]? = some (.cells cz.toArray 118 (0, 0))) := Lib.hid ⟨by rw [hwz]; exact EQ.out.1.out dN.out.1 (Nat.le_refl _) (EQ.out.1.sl.wt.alloc kF (aT.one (l := cz) EQ.out.1.all)) (Eff.bL _ _ _), by rw [hwz, hab]; exact blk_alloc_new _ _⟩
           have dz := EZ.out.1.sl.c0
           rw [e9] at dz
           rw [← hwz, ← hab]
           clear hwz hab
           refine hK _ _ ?_
           clear hK K
           try simp only [Act.put, sI]
           refine wpAny_ready (rs := [4]) (by kernel_rfl) (by simp) ?_
           refine AllReady.cons rfl (fun K hK => ?_) AllReady.nil
           go_simp
           refine hK _ _ ?_
           clear hK K
           try simp only [Act.put, sI]
           refine wpAny_ready (rs := [7]) (by kernel_rfl) (by simp) ?_
           refine AllReady.cons rfl (fun K hK => ?_) AllReady.nil
           rw [if_pos (by rfl)]
           obtain ⟨cur, g1, g2, g3, g4, g5, g6⟩ := EZ.out.1.sl.blk
           refine vY (B := B) (N := N' + 1) (cs := cz) (g := fb) (n := m) (cap := cap) (b := ab) (cur := cur) rfl rfl rfl EZ.out.1.sl.wt EZ.out.1.sl.bw g1 g2 (by omega) g4 g5 EZ.out.1.all EZ.out.2 (by omega) ?_
           intro dP cap' w5 A
           have tq := A.aS.blk EZ.out.1.sl.fF fun _ _ hx => tZ EZ.out.1.sl.fF g2 hx.1
           have d5 : w5.cell? ⟨mb, 0, none⟩ = some (.slice (some ⟨fb, 0, none⟩) m cap) := by rw [aa tq, e9]; rfl
           have f5 := ay tq 0
           have PU := Lib.hid (show ∃ c κ', rank c < rank (κ n) ∧ SL sh B T rb w mb di (N' + 1) (w5.setCell ⟨mb, 0, none⟩ (.slice (some ⟨dP, 0, none⟩) (m + 1) cap')) m κ' dP cap' c2 c3 ∧ FI T (w5.setCell ⟨mb, 0, none⟩ (.slice (some ⟨dP, 0, none⟩) (m + 1) cap')) dP m c 1 ∧ κ' m = c from by
             obtain ⟨c, h0, hP, yc⟩ := EZ.out.1.yes rfl
             obtain ⟨κ', -, k2, s1, s2⟩ := EZ.out.1.sl.push dN.out.1 (by have := HS.out.2.2.2.2.1; omega) hP EZ.out.1.all h0 E2.out.2 yc (by rw [e9]; exact A)
             rw [e9] at s1 s2 k2
             exact ⟨c, κ', hP.rk, s1, s2, k2⟩)
           clear A tq g1 g2 g3 g4 g5 g6
           refine hK _ _ ?_
           clear hK K
           try simp only [Act.put, sI]
           refine wpAny_take (i := 8) (v := ?_) rfl (by kernel_rfl) (by kernel_rfl) (by kernel_rfl) (fun _ _ _ h => h) (Or.inl ⟨by rfl, ?_⟩) ?_
           rotate_left
           · (intro w; go_simp; try with_reducible rfl)
           try simp only [Act.put, sI]
           refine wpAny_take (i := 9) (v := ?_) rfl (by kernel_rfl) (by kernel_rfl) (by kernel_rfl) (fun _ _ _ h => h) (Or.inl ⟨by rfl, ?_⟩) ?_
           rotate_left
           · (intro w; go_simp; try with_reducible rfl)
           try simp only [Act.put, sI]
           refine wpAny_ready (rs := [10]) (by kernel_rfl) (by simp) ?_
           refine AllReady.cons rfl (fun K hK => ?_) AllReady.nil
           go_simp
           refine hK _ _ ?_
           clear hK K
           try simp only [Act.put, sI]
           refine wpAny_done (by kernel_rfl) ?_ _
           obtain ⟨c, κ', k1, s1, s2, k2⟩ := PU.out
           go_wp2_with fail
           go_roundg (rank c + 1)
           case measure =>
             have := HS.out.2.2.1
             omega
           case rel =>
             have h1 := HS.out.2.2.2.1
             have h2 := HS.out.2.2.2.2.1
             exact ⟨m, κ', dP, cap', N' + 1, 1, s1, by rw [k2]; exact s2, by rw [k2]; omega, by rw [k2]; omega, by omega⟩
     | false =>
       obtain ⟨ln2, L2⟩ := e3.ep.no rfl
       have hNk : N' ≤ N + 4 := by have := HS.out.2.2.2.1; omega
       have LF := Lib.hid (fun w1 E1 W1 => e3.ep.sl.leaf hrb (by omega) L2 w1 E1 W1)
       have cq := e3.ep.sl.c0
       rw [e9] at cq
       have cqm := e3.ep.sl.fF
       have SW := e3.ep.sl.wt
       have hws := e3.ep.sl.aS.size
       have Oo := e3.ep.sl.A8
       have HC := Lib.hid (And.intro hrb (And.intro fM (And.intro hBw (And.intro hNk hnl))))
       clear e3 L2 hrb fM hBw c0 EN hNk cqm
       go_upto_region 7 with fail
       go_cut [7] (fun s7 wx => ∃ tb d c x, s7 = .pointer (some ⟨tb, 0, none⟩) ∧ wx.heap[tb]? = some (.cells #[.bool d, .int .i64 c, .int .i64 x] 146 (0, 0)) ∧ w.heap.size ≤ tb ∧ LP sh B T rb w mb di (N' + 1 + 2) wx n κ fb cap c2 c3 d c x)
       case first =>
         refine wp_region_held_drew (S := fun w' => w'.cell? ⟨mb, 0, none⟩ = some (.slice (some ⟨fb, 0, none⟩) m cap)) (by kernel_rfl) cq (fun hHeld => ?_)
         refine wpAnyH_take (i := 0) (v := ?_) rfl (by kernel_rfl) (by kernel_rfl) (by kernel_rfl) (fun _ _ _ h => h) (Or.inl ⟨by rfl, ?_⟩) (by assumption) ?_
         rotate_left
         · (intro w hSw; (try dsimp only at hSw); go_simp; try with_reducible rfl)
         try simp only [Act.put, sI]
         refine wpAnyH_take (i := 1) (v := ?_) rfl (by kernel_rfl) (by kernel_rfl) (by kernel_rfl) (fun _ _ _ h => h) (Or.inl ⟨by rfl, ?_⟩) (by assumption) ?_
         rotate_left
         · (intro w hSw; (try dsimp only at hSw); go_simp; try with_reducible rfl)
         try simp only [Act.put, sI]
         refine wpAnyH_take (i := 2) (v := ?_) rfl (by kernel_rfl) (by kernel_rfl) (by kernel_rfl) (fun _ _ _ h => h) (Or.inl ⟨by rfl, ?_⟩) (by assumption) ?_
         rotate_left
         · (intro w hSw; (try dsimp only at hSw); go_simp; try with_reducible rfl)
         try simp only [Act.put, sI]
         refine wpAnyH_take (i := 3) (v := ?_) rfl (by kernel_rfl) (by kernel_rfl) (by kernel_rfl) (fun _ _ _ h => h) (Or.inl ⟨by rfl, ?_⟩) (by assumption) ?_
         rotate_left
         · (intro w hSw; (try dsimp only at hSw); go_simp; try with_reducible rfl)
         try simp only [Act.put, sI]
         refine wpAnyH_take (i := 4) (v := ?_) rfl (by kernel_rfl) (by kernel_rfl) (by kernel_rfl) (fun _ _ _ h => h) (Or.inl ⟨by rfl, ?_⟩) (by assumption) ?_
         rotate_left
         · (intro w hSw; (try dsimp only at hSw); go_simp; try with_reducible rfl)
         try simp only [Act.put, sI]
         refine wpAnyH_take (i := 5) (v := ?_) rfl (by kernel_rfl) (by kernel_rfl) (by kernel_rfl) (fun _ _ _ h => h) (Or.inl ⟨by rfl, ?_⟩) (by assumption) ?_
         rotate_left
         · (intro w hSw; (try dsimp only at hSw); go_simp; try with_reducible rfl)
         try simp only [Act.put, sI]
         refine wpAnyH_take (i := 6) (v := ?_) rfl (by kernel_rfl) (by kernel_rfl) (by kernel_rfl) (fun _ _ _ h => h) (Or.inl ⟨by rfl, ?_⟩) (by assumption) ?_
         rotate_left
         · (intro w hSw; (try dsimp only at hSw); go_simp; try with_reducible rfl)
         try simp only [Act.put, sI]
         refine wpAnyH_take (i := 7) (v := ?_) rfl (by kernel_rfl) (by kernel_rfl) (by kernel_rfl) (fun _ _ _ h => h) (Or.inl ⟨by rfl, ?_⟩) (by assumption) ?_
         rotate_left
         · (intro w hSw; (try dsimp only at hSw); go_simp; try with_reducible rfl)
         try simp only [Act.put, sI]
         refine wpAnyH_take (i := 8) (v := ?_) rfl (by kernel_rfl) (by kernel_rfl) (by kernel_rfl) (fun _ _ _ h => h) (Or.inl ⟨by rfl, ?_⟩) (by assumption) ?_
         rotate_left
         · (intro w hSw; (try dsimp only at hSw); go_simp; try with_reducible rfl)
         try simp only [Act.put, sI]
         refine wpAnyH_take (i := 9) (v := ?_) rfl (by kernel_rfl) (by kernel_rfl) (by kernel_rfl) (fun _ _ _ h => h) (Or.inl ⟨by rfl, ?_⟩) (by assumption) ?_
         rotate_left
         · (intro w hSw; (try dsimp only at hSw); go_simp; try with_reducible rfl)
         try simp only [Act.put, sI]
         refine wpAnyH_take (i := 10) (v := ?_) rfl (by kernel_rfl) (by kernel_rfl) (by kernel_rfl) (fun _ _ _ h => h) (Or.inl ⟨by rfl, ?_⟩) (by assumption) ?_
         rotate_left
         · (intro w hSw; (try dsimp only at hSw); go_simp; try with_reducible rfl)
         try simp only [Act.put, sI]
         refine wpAnyH_take (i := 11) (v := ?_) rfl (by kernel_rfl) (by kernel_rfl) (by kernel_rfl) (fun _ _ _ h => h) (Or.inl ⟨by rfl, ?_⟩) (by assumption) ?_
         rotate_left
         · (intro w hSw; (try dsimp only at hSw); go_simp; try with_reducible rfl)
         try simp only [Act.put, sI]
         refine wpAnyH_ready (rs := [12, 13]) (by kernel_rfl) (by simp) ?_
         refine AllReadyH.cons rfl (fun K hK => ?_) (AllReadyH.cons rfl (fun K hK => ?_) AllReadyH.nil)
         · go_simp
           refine (LF.out _ ((Eff.refl _ _).drew) (SW.drew)).mono ?_
           rintro e w1 ⟨d, c, x, rfl, lp, hE⟩
           have s1 : wc.heap.size ≤ w1.heap.size := hE.size
           have d0 := lp.sl.c0
           rw [e9] at d0
           have LP1 := Lib.hid lp
           clear lp hE
           refine hK.out _ _ d0 (fun hHeld => ?_)
           clear hK K
           try simp only [Act.put, sI]
           refine wpAnyH_ready (rs := [13]) (by kernel_rfl) (by simp) ?_
           refine AllReadyH.cons rfl (fun K hK => ?_) AllReadyH.nil
           go_simp
           obtain ⟨w2, hw2⟩ : ∃ w2, w2 = w1.alloc (.cells #[.bool false, .int .i64 0, .int .i64 0] 146) := ⟨_, rfl⟩
           obtain ⟨tb, htb⟩ : ∃ tb, tb = w1.heap.size := ⟨_, rfl⟩
           have JW : Hid (LP sh B T rb w mb di (N' + 1 + 2) w2 n κ fb cap c2 c3 d c x) := Lib.hid (by rw [hw2]; exact LP1.out.out HC.out.1 (Nat.le_refl _) (LP1.out.sl.wt.alloc kR (aT.one (Uz _))) (Eff.bL _ _ _))
           have ZX : Hid (w2.heap[tb]? = some (.cells #[.bool false, .int .i64 0, .int .i64 0] 146 (0, 0))) := Lib.hid (by rw [hw2, htb]; exact blk_alloc_new _ _)
           have d1 := JW.out.sl.c0
           rw [e9] at d1
           rw [← hw2, ← htb]
           have hxw : wc.heap.size ≤ tb := by omega
           clear hw2 htb LP1 d0
           refine hK.out _ _ d1 (fun hHeld => ?_)
           clear hK K
           try simp only [Act.put, sI]
           refine wpAnyH_ready (rs := [14]) (by kernel_rfl) (by simp) ?_
           refine AllReadyH.cons rfl (fun K hK => ?_) AllReadyH.nil
           have t0 := aa ZX.out 0
           have t1 := aa ZX.out 1
           have t2 := aa ZX.out 2
           simp at t0 t1 t2
           have f0 := ay ZX.out 0
           have f1 := ay ZX.out 1
           have f2 := ay ZX.out 2
           have hxl := aK ZX.out
           have BX := Lib.hid (JW.out.box HC.out.1 ZX.out (by omega))
           have d9 := BX.out.1.sl.c0
           rw [e9] at d9
           unfold dw at d9
           go_simp
           clear t0 t1 t2 f0 f1 f2 hxl
           refine hK.out _ _ d9 (fun hHeld => ?_)
           clear hK K
           try simp only [Act.put, sI]
           refine wpAnyH_done (by kernel_rfl) ?_ _
           go_wp2_with fail
           go_meet
           exact ⟨_, d, c, x, rfl, BX.out.2, by omega, BX.out.1⟩
         · go_simp
           obtain ⟨w1, hw1⟩ : ∃ w1, w1 = (wc.alloc (.cells #[.bool false, .int .i64 0, .int .i64 0] 146)).drew := ⟨_, rfl⟩
           obtain ⟨tb, htb⟩ : ∃ tb, tb = wc.heap.size := ⟨_, rfl⟩
           have E1 : Eff (fun _ _ _ => False) wc w1 := by rw [hw1]; exact ((Eff.bL _ wc _).drew)
           have W1 : WT kd.sig B (N' + 1) w1 := by rw [hw1]; exact (SW.alloc kR (aT.one (Uz _))).drew
           have Z1 : Hid (w1.heap[tb]? = some (.cells #[.bool false, .int .i64 0, .int .i64 0] 146 (0, 0))) := Lib.hid (by rw [hw1, htb]; exact blk_alloc_new wc _)
           have d0 := E1.cell cq fun _ h => h
           have EE1 := Lib.hid (LF.out w1 E1 W1)
           rw [← hw1, ← htb]
           have hxw : wc.heap.size ≤ tb := by omega
           clear hw1 htb E1 W1
           refine hK.out _ _ d0 (fun hHeld => ?_)
           clear hK K
           try simp only [Act.put, sI]
           refine wpAnyH_ready (rs := [12]) (by kernel_rfl) (by simp) ?_
           refine AllReadyH.cons rfl (fun K hK => ?_) AllReadyH.nil
           go_simp
           refine EE1.out.mono ?_
           rintro e w2 ⟨d, c, x, rfl, lp, hE⟩
           have d1 := lp.sl.c0
           rw [e9] at d1
           have JW := Lib.hid lp
           obtain ⟨c', hx1, hx2, -⟩ := hE.cells _ _ _ _ Z1.out
           obtain ⟨v0, v1, v2, hc'⟩ : ∃ v0 v1 v2, c' = #[v0, v1, v2] := by
             obtain ⟨l⟩ := c'
             match l, hx2 with
             | [v0, v1, v2], _ => exact ⟨v0, v1, v2, rfl⟩
           rw [hc'] at hx1
           have ZX := Lib.hid hx1
           clear lp hE Z1 d0 hx1 hx2 hc' 
           refine hK.out _ _ d1 (fun hHeld => ?_)
           clear hK K
           try simp only [Act.put, sI]
           refine wpAnyH_ready (rs := [14]) (by kernel_rfl) (by simp) ?_
           refine AllReadyH.cons rfl (fun K hK => ?_) AllReadyH.nil
           have t0 := aa ZX.out 0
           have t1 := aa ZX.out 1
           have t2 := aa ZX.out 2
           simp at t0 t1 t2
           have f0 := ay ZX.out 0
           have f1 := ay ZX.out 1
           have f2 := ay ZX.out 2
           have hxl := aK ZX.out
           have BX := Lib.hid (JW.out.box HC.out.1 ZX.out (by omega))
           have d9 := BX.out.1.sl.c0
           rw [e9] at d9
           unfold dw at d9
           go_simp
           clear t0 t1 t2 f0 f1 f2 hxl
           refine hK.out _ _ d9 (fun hHeld => ?_)
           clear hK K
           try simp only [Act.put, sI]
           refine wpAnyH_done (by kernel_rfl) ?_ _
           go_wp2_with fail
           go_meet
           exact ⟨_, d, c, x, rfl, BX.out.2, by omega, BX.out.1⟩
       case rest =>
         obtain ⟨tb, d, c, x, rfl, hb, hn, lp⟩ := hcut
         obtain ⟨hrb, fM, hBw, hNb, -⟩ := HC.out
         have zM : Hid (∃ n κ fb cap N2 d c x, wc.heap[tb]? = some (.cells #[.bool d, .int .i64 c, .int .i64 x] 146 (0, 0)) ∧ LP sh B T rb w mb di N2 wc n κ fb cap c2 c3 d c x ∧ n < 10 ∧ N2 + 5 * n ≤ N + 27) := Lib.hid ⟨n, κ, fb, cap, N' + 1 + 2, d, c, x, hb, lp, by omega, by omega⟩
         have HD := Lib.hid (And.intro hrb (And.intro fM (And.intro hBw hn)))
         clear hb lp hrb fM hBw hNb hn cq SW LF HC HS hwm hn0 hnm hnm' e9
         go_wp2_with fail
         go_loopg [] 10 (fun k wr => ∃ n κ fb cap N2 d c x, wr.heap[tb]? = some (.cells #[.bool d, .int .i64 c, .int .i64 x] 146 (0, 0)) ∧ LP sh B T rb w mb di N2 wr n κ fb cap c2 c3 d c x ∧ n < k ∧ N2 + 5 * n ≤ N + 27)
         case atStart => exact zM.out
         case round =>
           clear zM
           obtain ⟨n, κ, fb, cap, N2, d, c, x, hb, lp, hk, wV⟩ := hrel
           have t0 := aa hb 0
           have t1 := aa hb 1
           have t2 := aa hb 2
           simp at t0 t1 t2
           have d0 := lp.sl.c0
           have q1 := aa lp.sl.fF 1
           have q2 := aa lp.sl.fF 2
           have q3 := aa lp.sl.fF 3
           simp [iC] at q1 q2 q3
           have p0 := ay lp.sl.fF 0
           have p1 := ay lp.sl.fF 1
           have p2 := ay lp.sl.fF 2
           have p3 := ay lp.sl.fF 3
           have hmt : mb ≠ tb := fun e => by
             subst e
             rw [lp.sl.fF] at hb
             cases hb
           have htm : tb ≠ mb := fun e => hmt e.symm
           cases d with
           | false =>
             have FIN := Lib.hid (acy (N' := N + 40) lp (by omega))
             clear lp hb d0 q1 q2 q3 p0 p1 p2 p3 t1 t2
             go_wp2_with fail
             go_ret
             exact FIN.out
           | true =>
             cases n with
             | zero =>
               have FIN := Lib.hid (fun q => aej (N' := N + 40) q lp (by omega))
               have hz1 : (1 : Int) - 1 = 0 := by omega
               have hz2 : IntKind.i64.wrap 0 = 0 := by kernel_rfl
               clear lp hb
               go_wp2_with fail
               go_region
               go_wp2_with fail
               go_region
               go_wp2_with fail
               go_ret
               exact FIN.out 2
             | succ n' =>
               obtain ⟨m, hm⟩ : ∃ m, m = n' + 1 + 1 := ⟨_, rfl⟩
               obtain ⟨m1, hm1⟩ : ∃ m1, m1 = n' + 1 := ⟨_, rfl⟩
               obtain ⟨cur, g1, g2, g3, g4, g5, g6⟩ := lp.sl.blk
               obtain ⟨hrb, fM, hBw, hn⟩ := HD.out
               have hsm := lp.sl.small
               have hwm : IntKind.i64.wrap ((m : Int) - 1) = (m1 : Int) := by rw [IntWalk.i64_in _ (by omega)]; omega
               have hwn : IntKind.i64.wrap ((m1 : Int) - 1) = (n' : Int) := by rw [IntWalk.i64_in _ (by omega)]; omega
               have h01 : (0 : Int) ≤ (m1 : Int) := by omega
               have h0n : (0 : Int) ≤ (n' : Int) := by omega
               have hle : (m1 : Int) ≤ (cap : Int) := by omega
               have Hq : m1 ≤ cap := by omega
               have hne : (m1 : Int) ≠ 0 := by omega
               have hne' : m1 ≠ 0 := by omega
               have hnm : (n' : Int) < (m1 : Int) := by omega
               have hnm' : n' < m1 := by omega
               have BF := Lib.hid (And.intro lp (And.intro hb (And.intro hk (And.intro wV (And.intro hm hm1)))))
               rw [← hm] at d0
               clear lp hb hk wV hm hm1 g1 g2 g3 g4 g5 g6 hrb fM hBw hn hsm
               go_wp2_with fail
               go_region
               go_wp2_with fail
               obtain ⟨w3, hw3⟩ : ∃ w3, w3 = (wr.setCell ⟨mb, 0, none⟩ (.slice (some ⟨fb, 0, none⟩) m1 cap)).drew := ⟨_, rfl⟩
               have CU : Hid (SL sh B T rb w mb di N2 w3 n' κ fb cap c2 c3 ∧ PI sh T w3 rb fb n' (κ n') (κ (n' + 1)) ∧ w3.heap[tb]? = some (.cells #[.bool true, .int .i64 c, .int .i64 x] 146 (0, 0))) := Lib.hid (by
                 obtain ⟨lp, hb, -, -, -, rfl⟩ := BF.out
                 obtain ⟨s1, s2⟩ := lp.sl.cut HD.out.1 (m := n') (by omega)
                 have hp := s2 (by omega)
                 have e1 : Eff (fun _ _ _ => False) (wr.setCell ⟨mb, 0, none⟩ (.slice (some ⟨fb, 0, none⟩) (n' + 1) cap)) w3 := by rw [hw3]; exact (Eff.refl _ _).drew
                 have s3 := s1.mO HD.out.1 (Nat.le_refl _) e1 (by rw [hw3]; exact s1.wt.drew)
                 refine ⟨s3, hp.keep s1.wt (s1.row (Nat.le_refl _)) (e1.mono fun _ _ _ _ h => h.elim) (fun o _ => ?_) fun _ t _ hx => hx.rP s1.ee HD.out.1 (e1.mono fun _ _ _ _ h => h.elim), ?_⟩
                 · rw [hw3]; rfl
                 · refine e1.blk ?_ fun _ _ h => h
                   rw [bM htm]
                   exact hb)
               rw [← hw3]
               have hxc : κ (n' + 1) = 12 → c = 3 ∨ (0 ≤ x ∧ x < T) := BF.out.1.val
               have BK := Lib.hid (fun w1 E1 W1 => CU.out.1.back HD.out.1 (by have := BF.out.2.2.2.1; have := HD.out.2.1; omega) CU.out.2.1 BF.out.1.ic BF.out.1.ix hxc w1 E1 W1)
               have e9 : n' + 1 = m1 := BF.out.2.2.2.2.2.symm
               have d3 := CU.out.1.c0
               rw [e9] at d3
               have s1 := aa CU.out.2.2 1
               have s2 := aa CU.out.2.2 2
               simp at s1 s2
               have SW := CU.out.1.wt
               clear hw3 t0 t1 t2 d0 q1 q2 q3 p0 p1 p2 p3 hmt htm hwm h01 hle Hq hxc
               refine wp_region_held_drew (S := fun w' => w'.cell? ⟨mb, 0, none⟩ = some (.slice (some ⟨fb, 0, none⟩) m1 cap)) (by kernel_rfl) d3 (fun hHeld => ?_)
               obtain ⟨wd, hwd⟩ : ∃ wd, wd = w3.drew := ⟨_, rfl⟩
               have v1 : wd.cell? ⟨tb, 1, none⟩ = some (.int .i64 c) := by rw [hwd]; exact s1
               have v2 : wd.cell? ⟨tb, 2, none⟩ = some (.int .i64 x) := by rw [hwd]; exact s2
               have d9 : wd.cell? ⟨mb, 0, none⟩ = some (.slice (some ⟨fb, 0, none⟩) m1 cap) := by rw [hwd]; exact d3
               have zb : Hid (wd.heap[tb]? = some (.cells #[.bool true, .int .i64 c, .int .i64 x] 146 (0, 0))) := Lib.hid (by rw [hwd]; exact CU.out.2.2)
               have BB := Lib.hid (BK.out wd (by rw [hwd]; exact (Eff.refl _ _).drew) (by rw [hwd]; exact SW.drew))
               have wQ : Hid (∃ f, wd.heap[fb]? = some (.cells f bT (0, 0))) := Lib.hid (by rw [hwd]; obtain ⟨cur, -, f2, -⟩ := CU.out.1.blk; exact ⟨cur, f2⟩)
               rw [← hwd]
               clear hwd s1 s2
               refine wpAnyH_take (i := 0) (v := ?_) rfl (by kernel_rfl) (by kernel_rfl) (by kernel_rfl) (fun _ _ _ h => h) (Or.inl ⟨by rfl, ?_⟩) (by assumption) ?_
               rotate_left
               · (intro w hSw; (try dsimp only at hSw); go_simp; try with_reducible rfl)
               try simp only [Act.put, sI]
               refine wpAnyH_take (i := 1) (v := ?_) rfl (by kernel_rfl) (by kernel_rfl) (by kernel_rfl) (fun _ _ _ h => h) (Or.inl ⟨by rfl, ?_⟩) (by assumption) ?_
               rotate_left
               · (intro w hSw; (try dsimp only at hSw); go_simp; try with_reducible rfl)
               try simp only [Act.put, sI]
               refine wpAnyH_take (i := 2) (v := ?_) rfl (by kernel_rfl) (by kernel_rfl) (by kernel_rfl) (fun _ _ _ h => h) (Or.inl ⟨by rfl, ?_⟩) (by assumption) ?_
               rotate_left
               · (intro w hSw; (try dsimp only at hSw); go_simp; try with_reducible rfl)
               try simp only [Act.put, sI]
               refine wpAnyH_take (i := 3) (v := ?_) rfl (by kernel_rfl) (by kernel_rfl) (by kernel_rfl) (fun _ _ _ h => h) (Or.inl ⟨by rfl, ?_⟩) (by assumption) ?_
               rotate_left
               · (intro w hSw; (try dsimp only at hSw); go_simp; try with_reducible rfl)
               try simp only [Act.put, sI]
               refine wpAnyH_take (i := 4) (v := ?_) rfl (by kernel_rfl) (by kernel_rfl) (by kernel_rfl) (fun _ _ _ h => h) (Or.inl ⟨by rfl, ?_⟩) (by assumption) ?_
               rotate_left
               · (intro w hSw; (try dsimp only at hSw); go_simp; try with_reducible rfl)
               try simp only [Act.put, sI]
               refine wpAnyH_take (i := 5) (v := ?_) rfl (by kernel_rfl) (by kernel_rfl) (by kernel_rfl) (fun _ _ _ h => h) (Or.inl ⟨by rfl, ?_⟩) (by assumption) ?_
               rotate_left
               · (intro w hSw; (try dsimp only at hSw); go_simp; try with_reducible rfl)
               try simp only [Act.put, sI]
               refine wpAnyH_take (i := 6) (v := ?_) rfl (by kernel_rfl) (by kernel_rfl) (by kernel_rfl) (fun _ _ _ h => h) (Or.inl ⟨by rfl, ?_⟩) (by assumption) ?_
               rotate_left
               · (intro w hSw; (try dsimp only at hSw); go_simp; try with_reducible rfl)
               try simp only [Act.put, sI]
               refine wpAnyH_take (i := 7) (v := ?_) rfl (by kernel_rfl) (by kernel_rfl) (by kernel_rfl) (fun _ _ _ h => h) (Or.inl ⟨by rfl, ?_⟩) (by assumption) ?_
               rotate_left
               · (intro w hSw; (try dsimp only at hSw); go_simp; try with_reducible rfl)
               try simp only [Act.put, sI]
               refine wpAnyH_take (i := 8) (v := ?_) rfl (by kernel_rfl) (by kernel_rfl) (by kernel_rfl) (fun _ _ _ h => h) (Or.inl ⟨by rfl, ?_⟩) (by assumption) ?_
               rotate_left
               · (intro w hSw; (try dsimp only at hSw); go_simp; try with_reducible rfl)
               try simp only [Act.put, sI]
               refine wpAnyH_take (i := 9) (v := ?_) rfl (by kernel_rfl) (by kernel_rfl) (by kernel_rfl) (fun _ _ _ h => h) (Or.inl ⟨by rfl, ?_⟩) (by assumption) ?_
               rotate_left
               · (intro w hSw; (try dsimp only at hSw); go_simp; try with_reducible rfl)
               try simp only [Act.put, sI]
               refine wpAnyH_take (i := 10) (v := ?_) rfl (by kernel_rfl) (by kernel_rfl) (by kernel_rfl) (fun _ _ _ h => h) (Or.inl ⟨by rfl, ?_⟩) (by assumption) ?_
               rotate_left
               · (intro w hSw; (try dsimp only at hSw); go_simp; try with_reducible rfl)
               try simp only [Act.put, sI]
               refine wpAnyH_take (i := 11) (v := ?_) rfl (by kernel_rfl) (by kernel_rfl) (by kernel_rfl) (fun _ _ _ h => h) (Or.inl ⟨by rfl, ?_⟩) (by assumption) ?_
               rotate_left
               · (intro w hSw; (try dsimp only at hSw); go_simp; try with_reducible rfl)
               try simp only [Act.put, sI]
               refine wpAnyH_take (i := 12) (v := ?_) rfl (by kernel_rfl) (by kernel_rfl) (by kernel_rfl) (fun _ _ _ h => h) (Or.inl ⟨by rfl, ?_⟩) (by assumption) ?_
               rotate_left
               · (intro w hSw; (try dsimp only at hSw); go_simp; try with_reducible rfl)
               try simp only [Act.put, sI]
               refine wpAnyH_take (i := 14) (v := ?_) rfl (by kernel_rfl) (by kernel_rfl) (by kernel_rfl) (fun _ _ _ h => h) (Or.inl ⟨by rfl, ?_⟩) (by assumption) ?_
               rotate_left
               · (intro w hSw; (try dsimp only at hSw); go_simp; try with_reducible rfl)
               try simp only [Act.put, sI]
               refine wpAnyH_ready (rs := [13, 15]) (by kernel_rfl) (by simp) ?_
               refine AllReadyH.cons rfl (fun K hK => ?_) (AllReadyH.cons rfl (fun K hK => ?_) AllReadyH.nil)
               · go_simp
                 refine hK.out _ _ d9 (fun hHeld => ?_)
                 clear hK K
                 try simp only [Act.put, sI]
                 refine wpAnyH_ready (rs := [15]) (by kernel_rfl) (by simp) ?_
                 refine AllReadyH.cons rfl (fun K hK => ?_) AllReadyH.nil
                 go_simp
                 refine hK.out _ _ d9 (fun hHeld => ?_)
                 clear hK K
                 try simp only [Act.put, sI]
                 refine wpAnyH_ready (rs := [16]) (by kernel_rfl) (by simp) ?_
                 refine AllReadyH.cons rfl (fun K hK => ?_) AllReadyH.nil
                 go_simp
                 refine BB.out.mono ?_
                 rintro e w4 ⟨d, c, x, rfl, lp, hE⟩
                 have d4 := lp.sl.c0
                 rw [e9] at d4
                 have ZX := Lib.hid (abv zb.out hE wQ.out)
                 have JW := Lib.hid lp
                 clear lp hE v1 v2
                 refine hK.out _ _ d4 (fun hHeld => ?_)
                 clear hK K
                 try simp only [Act.put, sI]
                 refine wpAnyH_ready (rs := [17]) (by kernel_rfl) (by simp) ?_
                 refine AllReadyH.cons rfl (fun K hK => ?_) AllReadyH.nil
                 have t0 := aa ZX.out 0
                 have t1 := aa ZX.out 1
                 have t2 := aa ZX.out 2
                 simp at t0 t1 t2
                 have f0 := ay ZX.out 0
                 have f1 := ay ZX.out 1
                 have f2 := ay ZX.out 2
                 have hxl := aK ZX.out
                 have BX := Lib.hid (JW.out.box HD.out.1 ZX.out HD.out.2.2.2)
                 have d9 := BX.out.1.sl.c0
                 rw [e9] at d9
                 unfold dw at d9
                 go_simp
                 clear t0 t1 t2 f0 f1 f2 hxl
                 refine hK.out _ _ d9 (fun hHeld => ?_)
                 clear hK K
                 try simp only [Act.put, sI]
                 refine wpAnyH_done (by kernel_rfl) ?_ _
                 go_wp2_with fail
                 go_roundg (n' + 1)
                 case measure =>
                   have := BF.out.2.2.1
                   omega
                 case rel =>
                   have h1 := BF.out.2.2.2.1
                   exact ⟨n', κ, fb, cap, N2 + 5, _, _, _, BX.out.2, BX.out.1, by omega, by omega⟩
               · go_simp
                 refine hK.out _ _ d9 (fun hHeld => ?_)
                 clear hK K
                 try simp only [Act.put, sI]
                 refine wpAnyH_ready (rs := [13]) (by kernel_rfl) (by simp) ?_
                 refine AllReadyH.cons rfl (fun K hK => ?_) AllReadyH.nil
                 go_simp
                 refine hK.out _ _ d9 (fun hHeld => ?_)
                 clear hK K
                 try simp only [Act.put, sI]
                 refine wpAnyH_ready (rs := [16]) (by kernel_rfl) (by simp) ?_
                 refine AllReadyH.cons rfl (fun K hK => ?_) AllReadyH.nil
                 go_simp
                 refine BB.out.mono ?_
                 rintro e w4 ⟨d, c, x, rfl, lp, hE⟩
                 have d4 := lp.sl.c0
                 rw [e9] at d4
                 have ZX := Lib.hid (abv zb.out hE wQ.out)
                 have JW := Lib.hid lp
                 clear lp hE v1 v2
                 refine hK.out _ _ d4 (fun hHeld => ?_)
                 clear hK K
                 try simp only [Act.put, sI]
                 refine wpAnyH_ready (rs := [17]) (by kernel_rfl) (by simp) ?_
                 refine AllReadyH.cons rfl (fun K hK => ?_) AllReadyH.nil
                 have t0 := aa ZX.out 0
                 have t1 := aa ZX.out 1
                 have t2 := aa ZX.out 2
                 simp at t0 t1 t2
                 have f0 := ay ZX.out 0
                 have f1 := ay ZX.out 1
                 have f2 := ay ZX.out 2
                 have hxl := aK ZX.out
                 have BX := Lib.hid (JW.out.box HD.out.1 ZX.out HD.out.2.2.2)
                 have d9 := BX.out.1.sl.c0
                 rw [e9] at d9
                 unfold dw at d9
                 go_simp
                 clear t0 t1 t2 f0 f1 f2 hxl
                 refine hK.out _ _ d9 (fun hHeld => ?_)
                 clear hK K
                 try simp only [Act.put, sI]
                 refine wpAnyH_done (by kernel_rfl) ?_ _
                 go_wp2_with fail
                 go_roundg (n' + 1)
                 case measure =>
                   have := BF.out.2.2.1
                   omega
                 case rel =>
                   have h1 := BF.out.2.2.2.1
                   exact ⟨n', κ, fb, cap, N2 + 5, _, _, _, BX.out.2, BX.out.1, by omega, by omega⟩
end Go.Proofs.YtncnepmgmphanaaGreatDoor
