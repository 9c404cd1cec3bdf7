/- The reference's decoder of configurations (printed by gen_dec.py). No condition beside those named. -/
import Derived.Test.YtncnepmgmphanaaGreatDoorTcDecL
import Derived.Test.YtncnepmgmphanaaGreatDoorTcEnvNew
import Derived.Deep.DeepCutAuto
import Derived.Deep.LoopGhost
set_option linter.unusedVariables false
set_option linter.unusedSimpArgs false
set_option linter.unusedSectionVars false
namespace Go.Proofs.YtncnepmgmphanaaGreatDoor
open Go.RowKit
variable {B N : Nat}
def pJ : List Value := [.int .i64 0, .int .i64 0, .int .i64 0, .int .i64 0, .int .i64 0, .int .i64 0, .int .i64 0, .int .i64 0, .int .i64 0, .slice none 0 0, .slice none 0 0]
theorem LZ {w : World} : bJ w B N bK pJ := by
 have z : aU w B N (.int .i64) (.int .i64 0) := ⟨0, rfl, i64_in (by omega)⟩
 have s0 : ∀ E s, aU w B N (.sl E s) (.slice none 0 0) := fun E s => ⟨0, [], Nat.zero_le _, World.ownsRow_nil _ _ _ _⟩
 exact ⟨z, z, z, z, z, z, z, z, z, s0 _ _, s0 _ _, trivial⟩
set_option maxRecDepth 100000 in
set_option maxHeartbeats 4000000 in
theorem QW (w : World) (ao : Option Addr) (nb cap : Nat) (hw : WT kd.sig B N w) (C : DC B N w ao nb) :
   Calls Tryz.prog 37 #[.slice ao nb cap] w fun e w' => ∃ c : kT, e = .returned (.agg c.cells.toArray) ∧ AB B N w c w' := by
 have HW := Lib.hid (And.intro hw C)
 clear hw C
 obtain ⟨W1, hW1⟩ : ∃ W1, W1 = w.alloc (.cells pJ.toArray 48) := ⟨_, rfl⟩
 obtain ⟨W2, hW2⟩ : ∃ W2, W2 = W1.alloc (.cells #[.slice ao nb cap, .slice none 0 0, .int .i64 0, .bool false] 121) := ⟨_, rfl⟩
 obtain ⟨kb, hkb⟩ : ∃ kb, kb = w.heap.size + 1 := ⟨_, rfl⟩
 obtain ⟨rb, hrb⟩ : ∃ rb, rb = w.heap.size := ⟨_, rfl⟩
 have H1 := Lib.hid (show WT kd.sig B N W1 ∧ Eff (fun _ _ _ => False) w W1 ∧ W1.heap[rb]? = some (.cells pJ.toArray 48 (0, 0)) ∧ DC B N W1 ao nb ∧ w.heap.size ≤ rb from by
   obtain ⟨hw, C⟩ := HW.out
   have e : Eff (fun _ _ _ => False) w W1 := by rw [hW1]; exact Eff.bL _ _ _
   have hs := e.size
   refine ⟨by rw [hW1]; exact hw.alloc kCf (aT.one LZ), e, by rw [hW1, hrb]; exact blk_alloc_new _ _, ⟨Nat.le_trans C.b hs, C.n1, C.n2, C.bs.keep (e.mono fun _ _ _ _ h => h.elim), C.nb⟩, by omega⟩)
 have H2 := Lib.hid (show DK B N W1 ao nb cap kb (.slice none 0 0) (.bool false) 0 W2 from by
   obtain ⟨h1, h2, h3, h4, h5⟩ := H1.out
   exact ⟨by rw [hW2]; exact h1.adx aiq, by rw [hW2]; exact Eff.bL _ _ _, by rw [hW2, show kb = W1.heap.size by rw [hkb, hW1]; simp]; exact blk_alloc_new _ _, by rw [hkb, hW1]; simp⟩)
 go_enter Tryz.func37, Tryz.ntmps37
 go_upto_region 1 with fail
 change Code.wp _ _ _ _ (w.alloc (.cells pJ.toArray 48))
 go_upto_region 2 with fail
 change Code.wp _ _ _ _ ((w.alloc (.cells pJ.toArray 48)).alloc (.cells #[.slice ao nb cap, .slice none 0 0, .int .i64 0, .bool false] 121))
 rw [← hW1, ← hW2, ← hkb, ← hrb]
 clear hW1 hW2 hkb hrb
 go_wp2_with fail
 refine (Ik H1.out.2.2.2.1 H2.out (by decide) (by decide) (by decide)).mono ?_
 rintro e w3 ⟨r0, rfl, a0, b0, h3, -⟩
 have H3 := Lib.hid h3
 have e0 := add1 a0 b0 (by decide)
 clear h3
 go_wp2_with fail
 refine (Ik H1.out.2.2.2.1 H3.out (by decide) (by decide) (by decide)).mono ?_
 rintro e w4 ⟨r1, rfl, a1, b1, h4, -⟩
 have H4 := Lib.hid h4
 have e1 := add1 a1 b1 (by decide)
 clear h4
 go_upto_region 3 with fail
 obtain ⟨cb, hcb⟩ : ∃ cb, cb = w4.heap.size := ⟨_, rfl⟩
 obtain ⟨w5, dZ⟩ : ∃ w5, w5 = w4.alloc (.cells #[.int .i64 (1 + r0), .int .i64 (1 + r1), .int .i64 0, .int .i64 0, .int .i64 0, .int .i64 0, .int .i64 0, .int .i64 0, .int .i64 0, .slice none 0 0, .slice none 0 0] 48) := ⟨_, rfl⟩
 have H5 := Lib.hid (show DS B N W1 ao nb cap kb cb (.slice none 0 0) (.bool false) [.int .i64 (1 + r0), .int .i64 (1 + r1), .int .i64 0, .int .i64 0, .int .i64 0, .int .i64 0, .int .i64 0, .int .i64 0, .int .i64 0, .slice none 0 0, .slice none 0 0] 2 w5 from by
   have e : Eff (fun _ _ _ => False) w4 w5 := by rw [dZ]; exact Eff.bL _ _ _
   have z : aU w4 B N (.int .i64) (.int .i64 0) := ⟨0, rfl, i64_in (by omega)⟩
   have s0 : ∀ E s, aU w4 B N (.sl E s) (.slice none 0 0) := fun E s => ⟨0, [], Nat.zero_le _, World.ownsRow_nil _ _ _ _⟩
   refine ⟨⟨?_, H4.out.aS.trans e, e.Aw H4.out.TD fun _ h => h, H4.out.kl⟩, by rw [dZ, hcb]; exact blk_alloc_new _ _, by rw [hcb]; exact H4.out.aS.size⟩
   rw [dZ]
   exact H4.out.wt.alloc Iy (aT.one (l := [.int .i64 (1 + r0), .int .i64 (1 + r1), .int .i64 0, .int .i64 0, .int .i64 0, .int .i64 0, .int .i64 0, .int .i64 0, .int .i64 0, .slice none 0 0, .slice none 0 0]) ⟨⟨_, rfl, i64_in (by omega)⟩, ⟨_, rfl, i64_in (by omega)⟩, z, z, z, z, z, z, z, s0 _ _, s0 _ _, trivial⟩))
 rw [← dZ, ← hcb]
 clear dZ hcb
 have c5 := H5.out.cell (i := 1) rfl
 go_wp2_with fail
 refine (kQ H1.out.2.2.2.1 H5.out (by omega) (by omega) (by decide)).mono ?_
 rintro e w6 ⟨r2, rfl, a2, b2, h, -⟩
 have H6 := Lib.hid h
 clear h
 have f6 := ay H6.out.cfg 2
 have d6 := H6.out.cell (i := 2) rfl
 have e2 := add1 a2 b2 (by omega)
 go_upto_region 4 with fail
 obtain ⟨w7, hw⟩ : ∃ wq, wq = w6.setCell ⟨cb, 2, none⟩ (.int .i64 (1 + r2)) := ⟨_, rfl⟩
 have H7 := Lib.hid (show DS B N W1 ao nb cap kb cb (.slice none 0 0) (.bool false) [.int .i64 (1 + r0), .int .i64 (1 + r1), .int .i64 (1 + r2), .int .i64 0, .int .i64 0, .int .i64 0, .int .i64 0, .int .i64 0, .int .i64 0, .slice none 0 0, .slice none 0 0] 3 w7 from by rw [hw]; exact H6.out.set H1.out.2.2.2.1 (i := 2) (ck := .int .i64) (v := .int .i64 (1 + r2)) (by decide) rfl ⟨_, rfl, i64_in (by omega)⟩)
 rw [← hw]
 clear hw f6 d6 c5
 go_wp2_with fail
 refine (kQ H1.out.2.2.2.1 H7.out (by decide) (by decide) (by decide)).mono ?_
 rintro e w8 ⟨r3, rfl, a3, b3, h, -⟩
 have H8 := Lib.hid h
 clear h
 have f8 := ay H8.out.cfg 3
 have d8 := H8.out.cell (i := 3) rfl
 have e3 := add1 a3 b3 (by decide)
 go_upto_region 5 with fail
 obtain ⟨w9, hw⟩ : ∃ wq, wq = w8.setCell ⟨cb, 3, none⟩ (.int .i64 (1 + r3)) := ⟨_, rfl⟩
 have H9 := Lib.hid (show DS B N W1 ao nb cap kb cb (.slice none 0 0) (.bool false) [.int .i64 (1 + r0), .int .i64 (1 + r1), .int .i64 (1 + r2), .int .i64 (1 + r3), .int .i64 0, .int .i64 0, .int .i64 0, .int .i64 0, .int .i64 0, .slice none 0 0, .slice none 0 0] 4 w9 from by rw [hw]; exact H8.out.set H1.out.2.2.2.1 (i := 3) (ck := .int .i64) (v := .int .i64 (1 + r3)) (by decide) rfl ⟨_, rfl, i64_in (by omega)⟩)
 rw [← hw]
 clear hw f8 d8
 go_wp2_with fail
 refine (kQ H1.out.2.2.2.1 H9.out (by decide) (by decide) (by decide)).mono ?_
 rintro e xO ⟨r4, rfl, a4, b4, h, -⟩
 have H10 := Lib.hid h
 clear h
 have f10 := ay H10.out.cfg 4
 have d10 := H10.out.cell (i := 4) rfl
 have e4 := add1 a4 b4 (by decide)
 go_upto_region 6 with fail
 obtain ⟨BM, hw⟩ : ∃ wq, wq = xO.setCell ⟨cb, 4, none⟩ (.int .i64 (1 + r4)) := ⟨_, rfl⟩
 have H11 := Lib.hid (show DS B N W1 ao nb cap kb cb (.slice none 0 0) (.bool false) [.int .i64 (1 + r0), .int .i64 (1 + r1), .int .i64 (1 + r2), .int .i64 (1 + r3), .int .i64 (1 + r4), .int .i64 0, .int .i64 0, .int .i64 0, .int .i64 0, .slice none 0 0, .slice none 0 0] 5 BM from by rw [hw]; exact H10.out.set H1.out.2.2.2.1 (i := 4) (ck := .int .i64) (v := .int .i64 (1 + r4)) (by decide) rfl ⟨_, rfl, i64_in (by omega)⟩)
 rw [← hw]
 clear hw f10 d10
 go_wp2_with fail
 refine (kQ H1.out.2.2.2.1 H11.out (by decide) (by decide) (by decide)).mono ?_
 rintro e Yq ⟨r5, rfl, a5, b5, h, -⟩
 have H12 := Lib.hid h
 clear h
 have f12 := ay H12.out.cfg 5
 have d12 := H12.out.cell (i := 5) rfl
 have e5 := add1 a5 b5 (by decide)
 go_upto_region 7 with fail
 obtain ⟨w13, hw⟩ : ∃ wq, wq = Yq.setCell ⟨cb, 5, none⟩ (.int .i64 (1 + r5)) := ⟨_, rfl⟩
 have H13 := Lib.hid (show DS B N W1 ao nb cap kb cb (.slice none 0 0) (.bool false) [.int .i64 (1 + r0), .int .i64 (1 + r1), .int .i64 (1 + r2), .int .i64 (1 + r3), .int .i64 (1 + r4), .int .i64 (1 + r5), .int .i64 0, .int .i64 0, .int .i64 0, .slice none 0 0, .slice none 0 0] 6 w13 from by rw [hw]; exact H12.out.set H1.out.2.2.2.1 (i := 5) (ck := .int .i64) (v := .int .i64 (1 + r5)) (by decide) rfl ⟨_, rfl, i64_in (by omega)⟩)
 rw [← hw]
 clear hw f12 d12
 have c13 := H13.out.cell (i := 4) rfl
 go_wp2_with fail
 refine (kQ H1.out.2.2.2.1 H13.out (by omega) (by omega) (by decide)).mono ?_
 rintro e w14 ⟨r6, rfl, a6, b6, h, -⟩
 have H14 := Lib.hid h
 clear h
 have f14 := ay H14.out.cfg 6
 have d14 := H14.out.cell (i := 6) rfl
 have e6 := add1 a6 b6 (by omega)
 go_upto_region 8 with fail
 obtain ⟨w15, hw⟩ : ∃ wq, wq = w14.setCell ⟨cb, 6, none⟩ (.int .i64 (1 + r6)) := ⟨_, rfl⟩
 have H15 := Lib.hid (show DS B N W1 ao nb cap kb cb (.slice none 0 0) (.bool false) [.int .i64 (1 + r0), .int .i64 (1 + r1), .int .i64 (1 + r2), .int .i64 (1 + r3), .int .i64 (1 + r4), .int .i64 (1 + r5), .int .i64 (1 + r6), .int .i64 0, .int .i64 0, .slice none 0 0, .slice none 0 0] 7 w15 from by rw [hw]; exact H14.out.set H1.out.2.2.2.1 (i := 6) (ck := .int .i64) (v := .int .i64 (1 + r6)) (by decide) rfl ⟨_, rfl, i64_in (by omega)⟩)
 rw [← hw]
 clear hw f14 d14 c13
 go_wp2_with fail
 refine (kQ H1.out.2.2.2.1 H15.out (by decide) (by decide) (by decide)).mono ?_
 rintro e w16 ⟨r7, rfl, a7, b7, h, -⟩
 have H16 := Lib.hid h
 clear h
 have f16 := ay H16.out.cfg 7
 have d16 := H16.out.cell (i := 7) rfl
 go_upto_region 9 with fail
 obtain ⟨w17, hw⟩ : ∃ wq, wq = w16.setCell ⟨cb, 7, none⟩ (.int .i64 r7) := ⟨_, rfl⟩
 have H17 := Lib.hid (show DS B N W1 ao nb cap kb cb (.slice none 0 0) (.bool false) [.int .i64 (1 + r0), .int .i64 (1 + r1), .int .i64 (1 + r2), .int .i64 (1 + r3), .int .i64 (1 + r4), .int .i64 (1 + r5), .int .i64 (1 + r6), .int .i64 r7, .int .i64 0, .slice none 0 0, .slice none 0 0] 8 w17 from by rw [hw]; exact H16.out.set H1.out.2.2.2.1 (i := 7) (ck := .int .i64) (v := .int .i64 r7) (by decide) rfl ⟨_, rfl, i64_in (by omega)⟩)
 rw [← hw]
 clear hw f16 d16
 go_wp2_with fail
 refine (kQ H1.out.2.2.2.1 H17.out (by decide) (by decide) (by decide)).mono ?_
 rintro e w18 ⟨r8, rfl, a8, b8, h, -⟩
 have H18 := Lib.hid h
 clear h
 have f18 := ay H18.out.cfg 8
 have d18 := H18.out.cell (i := 8) rfl
 have e8 := add1 a8 b8 (by decide)
 go_upto_region 10 with fail
 obtain ⟨w19, hw⟩ : ∃ wq, wq = w18.setCell ⟨cb, 8, none⟩ (.int .i64 (1 + r8)) := ⟨_, rfl⟩
 have H19 := Lib.hid (show DS B N W1 ao nb cap kb cb (.slice none 0 0) (.bool false) [.int .i64 (1 + r0), .int .i64 (1 + r1), .int .i64 (1 + r2), .int .i64 (1 + r3), .int .i64 (1 + r4), .int .i64 (1 + r5), .int .i64 (1 + r6), .int .i64 r7, .int .i64 (1 + r8), .slice none 0 0, .slice none 0 0] 9 w19 from by rw [hw]; exact H18.out.set H1.out.2.2.2.1 (i := 8) (ck := .int .i64) (v := .int .i64 (1 + r8)) (by decide) rfl ⟨_, rfl, i64_in (by omega)⟩)
 rw [← hw]
 clear hw f18 d18
 go_wp2_with fail
 refine (kQ H1.out.2.2.2.1 H19.out (by decide) (by decide) (by decide)).mono ?_
 rintro e w20 ⟨r9, rfl, a9, b9, h, -⟩
 have HD := Lib.hid h
 have e9 := add1 a9 b9 (by decide)
 clear h
 obtain ⟨nn, hnn⟩ : ∃ nn : Nat, 1 + r9 = nn := ⟨(1 + r9).toNat, by omega⟩
 have hn1 : 1 ≤ nn := by omega
 have hn4 : nn ≤ 4 := by omega
 rw [hnn] at e9
 go_upto_region 11 with fail
 try rw [hnn]
 clear hnn e9 a9 b9
 have HR := Lib.hid (show ((0 ≤ r0 ∧ r0 < 12) ∧ (0 ≤ r1 ∧ r1 < 12) ∧ (0 ≤ r3 ∧ r3 < 12) ∧ (0 ≤ r4 ∧ r4 < 12) ∧ (0 ≤ r5 ∧ r5 < 12) ∧ (0 ≤ r6 ∧ r6 < 12) ∧ (0 ≤ r7 ∧ r7 < 12) ∧ (0 ≤ r8 ∧ r8 < 12)) ∧ r0 < 4 ∧ r1 < 4 ∧ 0 ≤ r2 ∧ r2 < 4 ∧ r4 < 4 from ⟨⟨⟨a0, by omega⟩, ⟨a1, by omega⟩, ⟨a3, by omega⟩, ⟨a4, by omega⟩, ⟨a5, by omega⟩, ⟨a6, by omega⟩, ⟨a7, by omega⟩, ⟨a8, by omega⟩⟩, b0, b1, a2, by omega, b4⟩)
 clear a0 b0 a1 b1 a2 b2 a3 b3 a4 b4 a5 b5 a6 b6 a7 b7 a8 b8 e0 e1 e2 e3 e4 e5 e6 e8
 obtain ⟨BB, Kh⟩ : ∃ BB, BB = W1.heap.size := ⟨_, rfl⟩
 have qg := Lib.hid (show BB = W1.heap.size ∧ B ≤ BB from ⟨Kh, by rw [Kh]; exact H1.out.2.2.2.1.b⟩)
 have START := Lib.hid (show ∃ (k : Nat) (pv : Value) (pos : Nat), (Value.int .i64 0 = .int .i64 k) ∧ k + (nn + 1) = nn + 1 ∧ k ≤ nn ∧ pos ≤ 100 + 100 * k ∧ DS B N W1 ao nb cap kb cb (.slice none 0 0) (.bool false) [.int .i64 (1 + r0), .int .i64 (1 + r1), .int .i64 (1 + r2), .int .i64 (1 + r3), .int .i64 (1 + r4), .int .i64 (1 + r5), .int .i64 (1 + r6), .int .i64 r7, .int .i64 (1 + r8), pv, (.slice none 0 0)] pos w20 ∧ oC w20 BB k pv from ⟨0, .slice none 0 0, _, rfl, by omega, by omega, by decide, HD.out, fun _ => [], .inl ⟨rfl, rfl⟩, fun j hj => absurd hj (Nat.not_lt_zero _)⟩)
 clear Kh
 go_wp2_with fail
 go_loopg [6] (nn + 1) (fun g s6 wr => ∃ (k : Nat) (pv : Value) (pos : Nat), s6 = .int .i64 k ∧ k + g = nn + 1 ∧ k ≤ nn ∧ pos ≤ 100 + 100 * k ∧ DS B N W1 ao nb cap kb cb (.slice none 0 0) (.bool false) [.int .i64 (1 + r0), .int .i64 (1 + r1), .int .i64 (1 + r2), .int .i64 (1 + r3), .int .i64 (1 + r4), .int .i64 (1 + r5), .int .i64 (1 + r6), .int .i64 r7, .int .i64 (1 + r8), pv, (.slice none 0 0)] pos wr ∧ oC wr BB k pv)
 case atStart => exact START.out
 case round =>
   clear START
   obtain ⟨k, pv, pos, rfl, hg, hk, hpos, hS, hP⟩ := hrel
   have HS := Lib.hid (And.intro hg (And.intro hk (And.intro hpos (And.intro hS hP))))
   clear hg hk hpos hS hP
   by_cases hlt : k < nn
   · have hlt' : (k : Int) < (nn : Int) := by omega
     have hk4 : k ≤ 4 := by omega
     have hwl : wrap64 ((k : Int) + 1) = ((k + 1 : Nat) : Int) := by rw [← IntWalk.i64_left, IntWalk.i64_in _ (by omega)]; omega
     go_wp2_with fail
     refine (kQ H1.out.2.2.2.1 HS.out.2.2.2.1 (by decide) (by decide) (by have := HS.out.2.2.1; omega)).mono ?_
     rintro e ws ⟨q, rfl, aq, bq, h, hE⟩
     obtain ⟨qn, rfl⟩ : ∃ qn : Nat, q = qn := ⟨q.toNat, by omega⟩
     have HQ := Lib.hid (show DS B N W1 ao nb cap kb cb (.slice none 0 0) (.bool false) [.int .i64 (1 + r0), .int .i64 (1 + r1), .int .i64 (1 + r2), .int .i64 (1 + r3), .int .i64 (1 + r4), .int .i64 (1 + r5), .int .i64 (1 + r6), .int .i64 r7, .int .i64 (1 + r8), pv, (.slice none 0 0)] (pos + 1) ws ∧ oC ws BB k pv from ⟨h, HS.out.2.2.2.2.keep hE fun b T j h1 h2 h3 h4 => by
       rcases h3 with rfl | rfl
       · exact absurd h4.2 (by decide)
       · exact absurd h4.2 (by decide)⟩)
     clear h hE
     have hq6 : qn < 6 := by omega
     obtain ⟨B1, hB1⟩ : ∃ B1, B1 = ws.heap.size := ⟨_, rfl⟩
     have HB1 := Lib.hid (show B1 = ws.heap.size ∧ BB ≤ B1 from ⟨hB1, by rw [hB1, qg.out.1]; exact HQ.out.1.k.aS.size⟩)
     have zM := Lib.hid (show ∃ (m c iR : Nat), (Value.int .i64 (qn : Int) = .int .i64 c) ∧ m + c = qn ∧ c + 1 = qn + 1 ∧ iR ≤ 110 + 100 * k + 10 * m ∧ DS B N W1 ao nb cap kb cb (.slice none 0 0) (.bool false) [.int .i64 (1 + r0), .int .i64 (1 + r1), .int .i64 (1 + r2), .int .i64 (1 + r3), .int .i64 (1 + r4), .int .i64 (1 + r5), .int .i64 (1 + r6), .int .i64 r7, .int .i64 (1 + r8), pv, (.slice none 0 0)] iR ws ∧ Pg ws B1 m (.slice none 0 0) ∧ Eff (fun b T _ => B1 ≤ b ∨ T = ll) ws ws from ⟨0, qn, pos + 1, rfl, by omega, rfl, by have := HS.out.2.2.1; omega, HQ.out.1, ⟨fun _ => [], .inl ⟨rfl, rfl⟩, fun j hj => absurd hj (Nat.not_lt_zero _)⟩, Eff.refl _ _⟩)
     clear hB1 aq bq
     go_wp2_with fail
     go_loopg [7, 8] (qn + 1) (fun g s7 s8 wi => ∃ (m c iR : Nat), s8 = .int .i64 c ∧ m + c = qn ∧ c + 1 = g ∧ iR ≤ 110 + 100 * k + 10 * m ∧ DS B N W1 ao nb cap kb cb (.slice none 0 0) (.bool false) [.int .i64 (1 + r0), .int .i64 (1 + r1), .int .i64 (1 + r2), .int .i64 (1 + r3), .int .i64 (1 + r4), .int .i64 (1 + r5), .int .i64 (1 + r6), .int .i64 r7, .int .i64 (1 + r8), pv, (.slice none 0 0)] iR wi ∧ Pg wi B1 m s7 ∧ Eff (fun b T _ => B1 ≤ b ∨ T = ll) ws wi)
     case atStart => exact zM.out
     case round =>
       clear zM
       obtain ⟨m, c, iR, rfl, hmc, hcg, FJ, hS2, hP2, hE2⟩ := hrel
       have HI := Lib.hid (And.intro hmc (And.intro hcg (And.intro FJ (And.intro hS2 (And.intro hP2 hE2)))))
       have hm5 : m ≤ 5 := by omega
       have hc5 : c ≤ 5 := by omega
       clear hmc hcg FJ hS2 hP2 hE2
       by_cases hc : 0 < c
       · have hc' : (0 : Int) < (c : Int) := by omega
         have hws : wrap64 ((c : Int) - 1) = ((c - 1 : Nat) : Int) := by rw [← IntWalk.i64_left, IntWalk.i64_in _ (by omega)]; omega
         go_wp2_with fail
         refine (kQ H1.out.2.2.2.1 HI.out.2.2.2.1 (by decide) (by decide) (by have := HI.out.2.2.1; omega)).mono ?_
         rintro e wa ⟨o, rfl, Tu, bo1, h, hE⟩
         have HA := Lib.hid (show DS B N W1 ao nb cap kb cb (.slice none 0 0) (.bool false) [.int .i64 (1 + r0), .int .i64 (1 + r1), .int .i64 (1 + r2), .int .i64 (1 + r3), .int .i64 (1 + r4), .int .i64 (1 + r5), .int .i64 (1 + r6), .int .i64 r7, .int .i64 (1 + r8), pv, (.slice none 0 0)] (iR + 1) wa ∧ Pg wa B1 m u7 ∧ Eff (fun b T _ => B1 ≤ b ∨ T = ll) ws wa from ⟨h, HI.out.2.2.2.2.1.keep hE fun b j h1 h2 h3 => absurd h3.2 (by decide), HI.out.2.2.2.2.2.trans (hE.mono fun _ _ _ _ h => .inr h.2)⟩)
         clear h hE
         have io : bB .i64 o := i64_in (by omega)
         go_upto_region 19 with fail
         obtain ⟨xb, hxb⟩ : ∃ xb, xb = wa.heap.size := ⟨_, rfl⟩
         obtain ⟨wb, hwb⟩ : ∃ wb, wb = wa.alloc (.cells #[.int .i64 o, .int .i64 0, .int .i64 0] InT) := ⟨_, rfl⟩
         have HX := Lib.hid (show XS B N W1 ao nb cap kb cb (.slice none 0 0) (.bool false) [.int .i64 (1 + r0), .int .i64 (1 + r1), .int .i64 (1 + r2), .int .i64 (1 + r3), .int .i64 (1 + r4), .int .i64 (1 + r5), .int .i64 (1 + r6), .int .i64 r7, .int .i64 (1 + r8), pv, (.slice none 0 0)] InT wa xb [.int .i64 o, .int .i64 0, .int .i64 0] (iR + 1) wb from by rw [hwb, hxb]; exact XS.start HA.out.1 zy (by decide) io (i64_in (by omega)) (i64_in (by omega)))
         rw [← hwb, ← hxb]
         clear hwb hxb
         have c0 := HX.out.cell (i := 0) rfl
         have hcase : o = 0 ∨ o = 1 ∨ o = 2 := by omega
         clear Tu bo1
         rcases hcase with rfl | rfl | rfl
         · skip
           go_wp2_with fail
           refine (uU H1.out.2.2.2.1 HX.out (by decide) (by decide) (by have := HI.out.2.2.1; omega)).mono ?_
           rintro e v1 ⟨x, rfl, x0, x1, h⟩
           have G1 := Lib.hid h
           clear h
           have f1 := ay G1.out.x 1
           have d1 := G1.out.cell (i := 1) rfl
           have xe1 := add1 x0 x1 (by decide)
           have ix1 : bB .i64 (1 + x) := i64_in (by omega)
           have iy1 : 0 ≤ (1 + x) := by omega
           go_upto_region 26 with fail
           obtain ⟨u1w, hw⟩ : ∃ wq, wq = v1.setCell ⟨xb, 1, none⟩ (.int .i64 (1 + x)) := ⟨_, rfl⟩
           have X1 := Lib.hid (show XS B N W1 ao nb cap kb cb (.slice none 0 0) (.bool false) [.int .i64 (1 + r0), .int .i64 (1 + r1), .int .i64 (1 + r2), .int .i64 (1 + r3), .int .i64 (1 + r4), .int .i64 (1 + r5), .int .i64 (1 + r6), .int .i64 r7, .int .i64 (1 + r8), pv, (.slice none 0 0)] InT wa xb [.int .i64 0, .int .i64 (1 + x), .int .i64 0] (iR + 1 + 1) u1w from by rw [hw]; exact G1.out.set H1.out.2.2.2.1 zy (i := 1) (n := (1 + x)) (by decide) ix1)
           rw [← hw]
           clear hw f1 d1 x0 x1 xe1
           have c0 := X1.out.cell (i := 0) rfl
           have c1 := X1.out.cell (i := 1) rfl
           have c2 := X1.out.cell (i := 2) rfl
           obtain ⟨f, hF, hf⟩ := HA.out.2.1
           have RG := Lib.hid (show u1w.rangeAt xb 0 [.int .i64 0, .int .i64 (1 + x), .int .i64 0] from dE X1.out.x)
           obtain ⟨i, z, hi, hz, hzc, hsz, hby⟩ := Ig
           have ig : eZ fu z.cells.toList = true := by rw [hzc]; decide
           have PR := Lib.hid (X1.out.pre (B0 := B1) (k := m) (f := f) zy (i64_in (by omega)) ix1 (i64_in (by omega)) (Nat.le_trans qg.out.2 HB1.out.2) (by rw [HB1.out.1]; exact HA.out.2.2.size) hF (by omega))
           clear hF
           go_wp2_with (first
             | (with_reducible refine wpList_load_mid rfl 125 (.tmp 9) rfl xb 0 rfl [.int .i64 0, .int .i64 (1 + x), .int .i64 0] _ RG.out rfl rfl abJ ?_)
             | (at_builtin; refine jf (B := B) (N := N) (L := fu) (B0 := B1) (k := m) (b := u1w.heap.size) (row := [.int .i64 0, .int .i64 (1 + x), .int .i64 0]) (f := f) rfl DF hi hz hsz hby ig (by decide) zy rfl rfl rfl PR.out ?_))
           intro lb kc w5 hA
           have PU := Lib.hid (show DS B N W1 ao nb cap kb cb (.slice none 0 0) (.bool false) [.int .i64 (1 + r0), .int .i64 (1 + r1), .int .i64 (1 + r2), .int .i64 (1 + r3), .int .i64 (1 + r4), .int .i64 (1 + r5), .int .i64 (1 + r6), .int .i64 r7, .int .i64 (1 + r8), pv, (.slice none 0 0)] (iR + 1 + 1) w5 ∧ Pg w5 B1 (m + 1) (.slice (some ⟨lb, 0, none⟩) (m + 1) kc) ∧ Eff (fun b T _ => B1 ≤ b ∨ T = ll) ws w5 from by
             obtain ⟨q1, q2⟩ := X1.out.push (by rw [HB1.out.1]; exact HQ.out.1.k.aS.size) hA
             refine ⟨q1, Pg.push hf iy1 hA, HA.out.2.2.trans (q2.mono fun b T _ _ hc => ?_)⟩
             have hs := HA.out.2.2.size
             have hb := HB1.out.1
             rcases hc with hc | hc | hc
             · exact .inl hc.1
             · exact .inl (by omega)
             · exact .inr hc)
           clear hA hf
           go_wp2_with fail
           go_roundg c
           case measure => have := HI.out.2.1; omega
           case rel => exact ⟨m + 1, c - 1, _, by first | rw [hws] | (congr 1; omega) | (simp; omega), by have := HI.out.1; omega, by omega, by have := HI.out.2.2.1; omega, PU.out.1, PU.out.2.1, PU.out.2.2⟩
         · skip
           go_wp2_with fail
           refine (uU H1.out.2.2.2.1 HX.out (by omega) (by omega) (by have := HI.out.2.2.1; omega)).mono ?_
           rintro e v2 ⟨x, rfl, x0, x1, h⟩
           have G2 := Lib.hid h
           clear h
           have f2 := ay G2.out.x 1
           have d2 := G2.out.cell (i := 1) rfl
           have ix2 : bB .i64 x := i64_in (by omega)
           have iy2 : 0 ≤ x := by omega
           go_upto_region 25 with fail
           obtain ⟨u2w, hw⟩ : ∃ wq, wq = v2.setCell ⟨xb, 1, none⟩ (.int .i64 x) := ⟨_, rfl⟩
           have X2 := Lib.hid (show XS B N W1 ao nb cap kb cb (.slice none 0 0) (.bool false) [.int .i64 (1 + r0), .int .i64 (1 + r1), .int .i64 (1 + r2), .int .i64 (1 + r3), .int .i64 (1 + r4), .int .i64 (1 + r5), .int .i64 (1 + r6), .int .i64 r7, .int .i64 (1 + r8), pv, (.slice none 0 0)] InT wa xb [.int .i64 1, .int .i64 x, .int .i64 0] (iR + 1 + 1) u2w from by rw [hw]; exact G2.out.set H1.out.2.2.2.1 zy (i := 1) (n := x) (by decide) ix2)
           rw [← hw]
           clear hw f2 d2 x0 x1
           have cl1 := X2.out.ds.cell (i := 1) rfl
           have hl1 : 0 < 1 + r1 ∧ 1 + r1 ≤ 1000 := by have := HR.out.2.2.1; have := HR.out.1.2.1; omega
           go_wp2_with fail
           refine (uU H1.out.2.2.2.1 X2.out hl1.1 hl1.2 (by have := HI.out.2.2.1; omega)).mono ?_
           rintro e v3 ⟨y, rfl, x0, x1, h⟩
           have G3 := Lib.hid h
           clear h
           have f3 := ay G3.out.x 2
           have d3 := G3.out.cell (i := 2) rfl
           have ix3 : bB .i64 y := i64_in (by omega)
           have iy3 : 0 ≤ y := by omega
           go_upto_region 26 with fail
           obtain ⟨u3w, hw⟩ : ∃ wq, wq = v3.setCell ⟨xb, 2, none⟩ (.int .i64 y) := ⟨_, rfl⟩
           have X3 := Lib.hid (show XS B N W1 ao nb cap kb cb (.slice none 0 0) (.bool false) [.int .i64 (1 + r0), .int .i64 (1 + r1), .int .i64 (1 + r2), .int .i64 (1 + r3), .int .i64 (1 + r4), .int .i64 (1 + r5), .int .i64 (1 + r6), .int .i64 r7, .int .i64 (1 + r8), pv, (.slice none 0 0)] InT wa xb [.int .i64 1, .int .i64 x, .int .i64 y] (iR + 1 + 1 + 1) u3w from by rw [hw]; exact G3.out.set H1.out.2.2.2.1 zy (i := 2) (n := y) (by decide) ix3)
           rw [← hw]
           clear hw f3 d3 x0 x1
           have c0 := X3.out.cell (i := 0) rfl
           have c1 := X3.out.cell (i := 1) rfl
           have c2 := X3.out.cell (i := 2) rfl
           obtain ⟨f, hF, hf⟩ := HA.out.2.1
           have RG := Lib.hid (show u3w.rangeAt xb 0 [.int .i64 1, .int .i64 x, .int .i64 y] from dE X3.out.x)
           obtain ⟨i, z, hi, hz, hzc, hsz, hby⟩ := Ig
           have ig : eZ fu z.cells.toList = true := by rw [hzc]; decide
           have PR := Lib.hid (X3.out.pre (B0 := B1) (k := m) (f := f) zy (i64_in (by omega)) ix2 ix3 (Nat.le_trans qg.out.2 HB1.out.2) (by rw [HB1.out.1]; exact HA.out.2.2.size) hF (by omega))
           clear hF
           go_wp2_with (first
             | (with_reducible refine wpList_load_mid rfl 125 (.tmp 9) rfl xb 0 rfl [.int .i64 1, .int .i64 x, .int .i64 y] _ RG.out rfl rfl abJ ?_)
             | (at_builtin; refine jf (B := B) (N := N) (L := fu) (B0 := B1) (k := m) (b := u3w.heap.size) (row := [.int .i64 1, .int .i64 x, .int .i64 y]) (f := f) rfl DF hi hz hsz hby ig (by decide) zy rfl rfl rfl PR.out ?_))
           intro lb kc w5 hA
           have PU := Lib.hid (show DS B N W1 ao nb cap kb cb (.slice none 0 0) (.bool false) [.int .i64 (1 + r0), .int .i64 (1 + r1), .int .i64 (1 + r2), .int .i64 (1 + r3), .int .i64 (1 + r4), .int .i64 (1 + r5), .int .i64 (1 + r6), .int .i64 r7, .int .i64 (1 + r8), pv, (.slice none 0 0)] (iR + 1 + 1 + 1) w5 ∧ Pg w5 B1 (m + 1) (.slice (some ⟨lb, 0, none⟩) (m + 1) kc) ∧ Eff (fun b T _ => B1 ≤ b ∨ T = ll) ws w5 from by
             obtain ⟨q1, q2⟩ := X3.out.push (by rw [HB1.out.1]; exact HQ.out.1.k.aS.size) hA
             refine ⟨q1, Pg.push hf iy2 hA, HA.out.2.2.trans (q2.mono fun b T _ _ hc => ?_)⟩
             have hs := HA.out.2.2.size
             have hb := HB1.out.1
             rcases hc with hc | hc | hc
             · exact .inl hc.1
             · exact .inl (by omega)
             · exact .inr hc)
           clear hA hf
           go_wp2_with fail
           go_roundg c
           case measure => have := HI.out.2.1; omega
           case rel => exact ⟨m + 1, c - 1, _, by first | rw [hws] | (congr 1; omega) | (simp; omega), by have := HI.out.1; omega, by omega, by have := HI.out.2.2.1; omega, PU.out.1, PU.out.2.1, PU.out.2.2⟩
         · skip
           go_wp2_with fail
           refine (uU H1.out.2.2.2.1 HX.out (by decide) (by decide) (by have := HI.out.2.2.1; omega)).mono ?_
           rintro e v4 ⟨x, rfl, x0, x1, h⟩
           have G4 := Lib.hid h
           clear h
           have f4 := ay G4.out.x 1
           have d4 := G4.out.cell (i := 1) rfl
           have ix4 : bB .i64 x := i64_in (by omega)
           have iy4 : 0 ≤ x := by omega
           go_upto_region 26 with fail
           obtain ⟨u4w, hw⟩ : ∃ wq, wq = v4.setCell ⟨xb, 1, none⟩ (.int .i64 x) := ⟨_, rfl⟩
           have X4 := Lib.hid (show XS B N W1 ao nb cap kb cb (.slice none 0 0) (.bool false) [.int .i64 (1 + r0), .int .i64 (1 + r1), .int .i64 (1 + r2), .int .i64 (1 + r3), .int .i64 (1 + r4), .int .i64 (1 + r5), .int .i64 (1 + r6), .int .i64 r7, .int .i64 (1 + r8), pv, (.slice none 0 0)] InT wa xb [.int .i64 2, .int .i64 x, .int .i64 0] (iR + 1 + 1) u4w from by rw [hw]; exact G4.out.set H1.out.2.2.2.1 zy (i := 1) (n := x) (by decide) ix4)
           rw [← hw]
           clear hw f4 d4 x0 x1
           have c0 := X4.out.cell (i := 0) rfl
           have c1 := X4.out.cell (i := 1) rfl
           have c2 := X4.out.cell (i := 2) rfl
           obtain ⟨f, hF, hf⟩ := HA.out.2.1
           have RG := Lib.hid (show u4w.rangeAt xb 0 [.int .i64 2, .int .i64 x, .int .i64 0] from dE X4.out.x)
           obtain ⟨i, z, hi, hz, hzc, hsz, hby⟩ := Ig
           have ig : eZ fu z.cells.toList = true := by rw [hzc]; decide
           have PR := Lib.hid (X4.out.pre (B0 := B1) (k := m) (f := f) zy (i64_in (by omega)) ix4 (i64_in (by omega)) (Nat.le_trans qg.out.2 HB1.out.2) (by rw [HB1.out.1]; exact HA.out.2.2.size) hF (by omega))
           clear hF
           go_wp2_with (first
             | (with_reducible refine wpList_load_mid rfl 125 (.tmp 9) rfl xb 0 rfl [.int .i64 2, .int .i64 x, .int .i64 0] _ RG.out rfl rfl abJ ?_)
             | (at_builtin; refine jf (B := B) (N := N) (L := fu) (B0 := B1) (k := m) (b := u4w.heap.size) (row := [.int .i64 2, .int .i64 x, .int .i64 0]) (f := f) rfl DF hi hz hsz hby ig (by decide) zy rfl rfl rfl PR.out ?_))
           intro lb kc w5 hA
           have PU := Lib.hid (show DS B N W1 ao nb cap kb cb (.slice none 0 0) (.bool false) [.int .i64 (1 + r0), .int .i64 (1 + r1), .int .i64 (1 + r2), .int .i64 (1 + r3), .int .i64 (1 + r4), .int .i64 (1 + r5), .int .i64 (1 + r6), .int .i64 r7, .int .i64 (1 + r8), pv, (.slice none 0 0)] (iR + 1 + 1) w5 ∧ Pg w5 B1 (m + 1) (.slice (some ⟨lb, 0, none⟩) (m + 1) kc) ∧ Eff (fun b T _ => B1 ≤ b ∨ T = ll) ws w5 from by
             obtain ⟨q1, q2⟩ := X4.out.push (by rw [HB1.out.1]; exact HQ.out.1.k.aS.size) hA
             refine ⟨q1, Pg.push hf iy4 hA, HA.out.2.2.trans (q2.mono fun b T _ _ hc => ?_)⟩
             have hs := HA.out.2.2.size
             have hb := HB1.out.1
             rcases hc with hc | hc | hc
             · exact .inl hc.1
             · exact .inl (by omega)
             · exact .inr hc)
           clear hA hf
           go_wp2_with fail
           go_roundg c
           case measure => have := HI.out.2.1; omega
           case rel => exact ⟨m + 1, c - 1, _, by first | rw [hws] | (congr 1; omega) | (simp; omega), by have := HI.out.1; omega, by omega, by have := HI.out.2.2.1; omega, PU.out.1, PU.out.2.1, PU.out.2.2⟩
       · have hc' : ¬ (0 : Int) < (c : Int) := by omega
         have hmq : m = qn := by have := HI.out.1; omega
         subst hmq
         obtain ⟨g0, hG, hg0⟩ := HI.out.2.2.2.2.1
         obtain ⟨ap, cp, hu7⟩ : ∃ ap cp, u7 = .slice ap m cp := by
           rcases hG with ⟨e, h0⟩ | ⟨lb, kc, cur, e, -⟩
           · exact ⟨none, 0, by rw [e, h0]⟩
           · exact ⟨_, _, e⟩
         subst hu7
         clear hG hg0
         have HP := Lib.hid (show oC wr BB k pv from HQ.out.2.keep HI.out.2.2.2.2.2 fun b T j h1 h2 h3 h4 => by
           rcases h4 with h4 | h4
           · have := HB1.out.1; omega
           · rcases h3 with rfl | rfl
             · exact absurd h4 (by decide)
             · exact absurd h4 (by decide))
         have c9 := HI.out.2.2.2.1.cell (i := 9) rfl
         obtain ⟨f, hF, hf⟩ := HP.out
         obtain ⟨i, z, hi, hz, hzc, hsz, hby⟩ := agn
         have ig : eZ [.sl InT 3] z.cells.toList = true := by rw [hzc]; decide
         have PR := Lib.hid (HI.out.2.2.2.1.akS (BB := BB) (B1 := B1) (k := k) (m := m) (f := f) (p := .slice ap m cp) qg.out.2 (by rw [qg.out.1]; exact HI.out.2.2.2.1.k.aS.size) HB1.out.2 hF HI.out.2.2.2.2.1 (by have := H1.out.2.2.2.1.n1; omega) (by omega))
         clear hF
         go_wp2_with (at_builtin; refine jf (B := B) (N := N) (L := [.sl InT 3]) (B0 := BB) (k := k) (b := wr.heap.size) (row := [.slice ap m cp]) (f := f) rfl acV hi hz hsz hby ig (by decide) kIl rfl rfl rfl PR.out ?_)
         intro lb kc w5 hA
         have PU := Lib.hid (DS.ajk H1.out.2.2.2.1 HI.out.2.2.2.1 qg.out.1 HB1.out.2 hf HI.out.2.2.2.2.1 (by omega) (by omega) hA)
         have f9 := ay PU.out.1.cfg 9
         have d9 := PU.out.1.cell (i := 9) rfl
         clear hA hf
         go_wp2_with fail
         go_roundg (nn - k)
         case measure => have := HS.out.1; omega
         case rel => exact ⟨k + 1, _, _, by first | rw [hwl] | simp, by have := HS.out.1; omega, by omega, by have := HI.out.2.2.1; omega, PU.out.2.1, PU.out.2.2⟩
   · have hlt' : ¬ (k : Int) < (nn : Int) := by omega
     have hkn : k = nn := by have := HS.out.2.1; omega
     subst hkn
     go_wp2_with fail
     refine (kQ H1.out.2.2.2.1 HS.out.2.2.2.1 (by decide) (by decide) (by have := HS.out.2.2.1; omega)).mono ?_
     rintro e ws ⟨q, rfl, aq, bq, h, hE⟩
     obtain ⟨qn, rfl⟩ : ∃ qn : Nat, q = qn := ⟨q.toNat, by omega⟩
     have aaE := Lib.hid (show ∃ (m c iR : Nat) (sv : Value), (Value.int .i64 (qn : Int) = .int .i64 c) ∧ m + c = qn ∧ c + 1 = qn + 1 ∧ iR ≤ 1000 + 10 * m ∧ DS B N W1 ao nb cap kb cb (.slice none 0 0) (.bool false) [.int .i64 (1 + r0), .int .i64 (1 + r1), .int .i64 (1 + r2), .int .i64 (1 + r3), .int .i64 (1 + r4), .int .i64 (1 + r5), .int .i64 (1 + r6), .int .i64 r7, .int .i64 (1 + r8), pv, sv] iR ws ∧ oC ws BB k pv ∧ ∃ f, mf ws qY 3 BB m f sv from ⟨0, qn, pos + 1, _, rfl, by omega, rfl, by have := HS.out.2.2.1; omega, h, HS.out.2.2.2.2.keep hE fun b T j h1 h2 h3 h4 => (by
         rcases h3 with rfl | rfl
         · exact absurd h4.2 (by decide)
         · exact absurd h4.2 (by decide)), fun _ => [], .inl ⟨rfl, rfl⟩⟩)
     clear h hE
     have hq6 : qn < 6 := by omega
     clear aq bq
     go_wp2_with fail
     go_loopg [10] (qn + 1) (fun g s10 wi => ∃ (m c iR : Nat) (sv : Value), s10 = .int .i64 c ∧ m + c = qn ∧ c + 1 = g ∧ iR ≤ 1000 + 10 * m ∧ DS B N W1 ao nb cap kb cb (.slice none 0 0) (.bool false) [.int .i64 (1 + r0), .int .i64 (1 + r1), .int .i64 (1 + r2), .int .i64 (1 + r3), .int .i64 (1 + r4), .int .i64 (1 + r5), .int .i64 (1 + r6), .int .i64 r7, .int .i64 (1 + r8), pv, sv] iR wi ∧ oC wi BB k pv ∧ ∃ f, mf wi qY 3 BB m f sv)
     case atStart => exact aaE.out
     case round =>
       clear aaE
       obtain ⟨m, c, iR, sv, rfl, hmc, hcg, FJ, hS2, hP2, hR2⟩ := hrel
       have HI := Lib.hid (And.intro hmc (And.intro hcg (And.intro FJ (And.intro hS2 (And.intro hP2 hR2)))))
       have hm5 : m ≤ 5 := by omega
       have hc5 : c ≤ 5 := by omega
       clear hmc hcg FJ hS2 hP2 hR2
       by_cases hc : 0 < c
       · have hc' : (0 : Int) < (c : Int) := by omega
         have hws : wrap64 ((c : Int) - 1) = ((c - 1 : Nat) : Int) := by rw [← IntWalk.i64_left, IntWalk.i64_in _ (by omega)]; omega
         go_wp2_with fail
         refine (kQ H1.out.2.2.2.1 HI.out.2.2.2.1 (by omega) (by omega) (by have := HI.out.2.2.1; omega)).mono ?_
         rintro e wa ⟨o, rfl, Tu, bo1, h, hE⟩
         have HA := Lib.hid (show DS B N W1 ao nb cap kb cb (.slice none 0 0) (.bool false) [.int .i64 (1 + r0), .int .i64 (1 + r1), .int .i64 (1 + r2), .int .i64 (1 + r3), .int .i64 (1 + r4), .int .i64 (1 + r5), .int .i64 (1 + r6), .int .i64 r7, .int .i64 (1 + r8), pv, sv] (iR + 1) wa ∧ oC wa BB k pv ∧ ∃ f, mf wa qY 3 BB m f sv from (by
           obtain ⟨f, hf⟩ := HI.out.2.2.2.2.2
           exact ⟨h, HI.out.2.2.2.2.1.keep hE (fun b T j h1 h2 h3 h4 => (by
             rcases h3 with rfl | rfl
             · exact absurd h4.2 (by decide)
             · exact absurd h4.2 (by decide))), f, hf.keep hE fun b j h1 h2 h3 => absurd h3.2 (by decide)⟩))
         clear h hE
         have io : bB .i64 o := i64_in (by omega)
         go_upto_region 32 with fail
         obtain ⟨xb, hxb⟩ : ∃ xb, xb = wa.heap.size := ⟨_, rfl⟩
         obtain ⟨wb, hwb⟩ : ∃ wb, wb = wa.alloc (.cells #[.int .i64 o, .int .i64 0, .int .i64 0] qY) := ⟨_, rfl⟩
         have HX := Lib.hid (show XS B N W1 ao nb cap kb cb (.slice none 0 0) (.bool false) [.int .i64 (1 + r0), .int .i64 (1 + r1), .int .i64 (1 + r2), .int .i64 (1 + r3), .int .i64 (1 + r4), .int .i64 (1 + r5), .int .i64 (1 + r6), .int .i64 r7, .int .i64 (1 + r8), pv, sv] qY wa xb [.int .i64 o, .int .i64 0, .int .i64 0] (iR + 1) wb from by rw [hwb, hxb]; exact XS.start HA.out.1 kSb (by decide) io (i64_in (by omega)) (i64_in (by omega)))
         rw [← hwb, ← hxb]
         clear hwb hxb Tu bo1
         have cl1 := HX.out.ds.cell (i := 1) rfl
         have hl1 : 0 < 1 + r1 ∧ 1 + r1 ≤ 1000 := by have := HR.out.2.2.1; have := HR.out.1.2.1; omega
         go_wp2_with fail
         refine (uU H1.out.2.2.2.1 HX.out hl1.1 hl1.2 (by have := HI.out.2.2.1; omega)).mono ?_
         rintro e v5 ⟨y, rfl, x0, x1, h⟩
         have G5 := Lib.hid h
         clear h
         have f5 := ay G5.out.x 1
         have d5 := G5.out.cell (i := 1) rfl
         have ix5 : bB .i64 y := i64_in (by omega)
         go_upto_region 33 with fail
         obtain ⟨u5w, hw⟩ : ∃ wq, wq = v5.setCell ⟨xb, 1, none⟩ (.int .i64 y) := ⟨_, rfl⟩
         have X5 := Lib.hid (show XS B N W1 ao nb cap kb cb (.slice none 0 0) (.bool false) [.int .i64 (1 + r0), .int .i64 (1 + r1), .int .i64 (1 + r2), .int .i64 (1 + r3), .int .i64 (1 + r4), .int .i64 (1 + r5), .int .i64 (1 + r6), .int .i64 r7, .int .i64 (1 + r8), pv, sv] qY wa xb [.int .i64 o, .int .i64 y, .int .i64 0] (iR + 1 + 1) u5w from by rw [hw]; exact G5.out.set H1.out.2.2.2.1 kSb (i := 1) (n := y) (by decide) ix5)
         rw [← hw]
         clear hw f5 d5 x0 x1
         go_wp2_with fail
         refine (uU H1.out.2.2.2.1 X5.out (by decide) (by decide) (by have := HI.out.2.2.1; omega)).mono ?_
         rintro e v6 ⟨z, rfl, x0, x1, h⟩
         have G6 := Lib.hid h
         clear h
         have f6 := ay G6.out.x 2
         have d6 := G6.out.cell (i := 2) rfl
         have ix6 : bB .i64 z := i64_in (by omega)
         go_upto_region 34 with fail
         obtain ⟨u6w, hw⟩ : ∃ wq, wq = v6.setCell ⟨xb, 2, none⟩ (.int .i64 z) := ⟨_, rfl⟩
         have X6 := Lib.hid (show XS B N W1 ao nb cap kb cb (.slice none 0 0) (.bool false) [.int .i64 (1 + r0), .int .i64 (1 + r1), .int .i64 (1 + r2), .int .i64 (1 + r3), .int .i64 (1 + r4), .int .i64 (1 + r5), .int .i64 (1 + r6), .int .i64 r7, .int .i64 (1 + r8), pv, sv] qY wa xb [.int .i64 o, .int .i64 y, .int .i64 z] (iR + 1 + 1 + 1) u6w from by rw [hw]; exact G6.out.set H1.out.2.2.2.1 kSb (i := 2) (n := z) (by decide) ix6)
         rw [← hw]
         clear hw f6 d6 x0 x1
         have c0 := X6.out.cell (i := 0) rfl
         have c1 := X6.out.cell (i := 1) rfl
         have c2 := X6.out.cell (i := 2) rfl
         have c10 := X6.out.ds.cell (i := 10) rfl
         obtain ⟨f, hF⟩ := HA.out.2.2
         have RG := Lib.hid (show u6w.rangeAt xb 0 [.int .i64 o, .int .i64 y, .int .i64 z] from dE X6.out.x)
         obtain ⟨i, zz, hi, hz, hzc, hsz, hby⟩ := agk
         have ig : eZ kD zz.cells.toList = true := by rw [hzc]; decide
         have PR := Lib.hid (X6.out.pre (B0 := BB) (k := m) (f := f) kSb io ix5 ix6 qg.out.2 (by rw [qg.out.1]; exact X6.out.w0l) hF (by omega))
         clear hF
         go_wp2_with (first
           | (with_reducible refine wpList_load_mid rfl 127 (.tmp 11) rfl xb 0 rfl [.int .i64 o, .int .i64 y, .int .i64 z] _ RG.out rfl rfl alF ?_)
           | (at_builtin; refine jf (B := B) (N := N) (L := kD) (B0 := BB) (k := m) (b := u6w.heap.size) (row := [.int .i64 o, .int .i64 y, .int .i64 z]) (f := f) rfl aeW hi hz hsz hby ig (by decide) kSb rfl rfl rfl PR.out ?_))
         intro lb kc w5 hA
         have PU := Lib.hid (DS.ai8 H1.out.2.2.2.1 X6.out qg.out.1 HA.out.2.1 (by omega) hA)
         have f10 := ay PU.out.1.cfg 10
         have d10 := PU.out.1.cell (i := 10) rfl
         clear hA
         go_wp2_with fail
         go_roundg c
         case measure => have := HI.out.2.1; omega
         case rel => exact ⟨m + 1, c - 1, _, _, by first | rw [hws] | (congr 1; omega) | (simp; omega), by have := HI.out.1; omega, by omega, by have := HI.out.2.2.1; omega, PU.out.2.1, PU.out.2.2.1, PU.out.2.2.2⟩
       · have hc' : ¬ (0 : Int) < (c : Int) := by omega
         have RC := Lib.hid (show wr.rangeAt cb 0 [.int .i64 (1 + r0), .int .i64 (1 + r1), .int .i64 (1 + r2), .int .i64 (1 + r3), .int .i64 (1 + r4), .int .i64 (1 + r5), .int .i64 (1 + r6), .int .i64 r7, .int .i64 (1 + r8), pv, sv] from dE HI.out.2.2.2.1.cfg)
         have RR := Lib.hid (show wr.heap[rb]? = some (.cells pJ.toArray q8 (0, 0)) from HI.out.2.2.2.1.k.aS.blk H1.out.2.2.1 fun _ _ h => h)
         have Fx : (Tryz.prog.info? 48).map (·.size) = some [.int .i64 (1 + r0), .int .i64 (1 + r1), .int .i64 (1 + r2), .int .i64 (1 + r3), .int .i64 (1 + r4), .int .i64 (1 + r5), .int .i64 (1 + r6), .int .i64 r7, .int .i64 (1 + r8), pv, sv].length := by
           show (Tryz.prog.info? 48).map (·.size) = some 11
           kernel_rfl
         have FH : (Tryz.prog.info? 48).map (·.size) = some [.int .i64 (1 + r0), .int .i64 (1 + r1), .int .i64 (1 + r2), .int .i64 (1 + r3), .int .i64 (1 + r4), .int .i64 (1 + r5), .int .i64 (1 + r6), .int .i64 r7, .int .i64 (1 + r8), pv, sv].toArray.size := by
           show (Tryz.prog.info? 48).map (·.size) = some 11
           kernel_rfl
         have AO : bJ wr B N bK [.int .i64 (1 + r0), .int .i64 (1 + r1), .int .i64 (1 + r2), .int .i64 (1 + r3), .int .i64 (1 + r4), .int .i64 (1 + r5), .int .i64 (1 + r6), .int .i64 r7, .int .i64 (1 + r8), pv, sv] := (WT.rows HI.out.2.2.2.1.k.wt Iy (Nat.le_trans qg.out.2 (by rw [qg.out.1]; exact HI.out.2.2.2.1.cl)) HI.out.2.2.2.1.cfg).all1 rfl
         have AOH := Lib.hid AO
         have TH : wr.there rb 0 [.int .i64 (1 + r0), .int .i64 (1 + r1), .int .i64 (1 + r2), .int .i64 (1 + r3), .int .i64 (1 + r4), .int .i64 (1 + r5), .int .i64 (1 + r6), .int .i64 r7, .int .i64 (1 + r8), pv, sv].toArray.size := Gg RR.out (by show 0 + 11 ≤ 11; omega)
         have OC : [.int .i64 (1 + r0), .int .i64 (1 + r1), .int .i64 (1 + r2), .int .i64 (1 + r3), .int .i64 (1 + r4), .int .i64 (1 + r5), .int .i64 (1 + r6), .int .i64 r7, .int .i64 (1 + r8), pv, sv].toArray.all (·.oneCell') = true := all_oneCell_toArray AO.one
         clear AO
         go_wp2_with (first
           | (with_reducible refine wpList_load_mid rfl 48 (.tmp 4) rfl cb 0 rfl [.int .i64 (1 + r0), .int .i64 (1 + r1), .int .i64 (1 + r2), .int .i64 (1 + r3), .int .i64 (1 + r4), .int .i64 (1 + r5), .int .i64 (1 + r6), .int .i64 r7, .int .i64 (1 + r8), pv, sv] _ RC.out rfl rfl Fx ?_)
           | (with_reducible refine wpList_store_mid rfl 48 (.tmp 2) (.tmp 127) rfl rb 0 [.int .i64 (1 + r0), .int .i64 (1 + r1), .int .i64 (1 + r2), .int .i64 (1 + r3), .int .i64 (1 + r4), .int .i64 (1 + r5), .int .i64 (1 + r6), .int .i64 r7, .int .i64 (1 + r8), pv, sv].toArray rfl rfl TH FH OC ?_))
         obtain ⟨T, hT⟩ : ∃ T : Nat, 1 + r3 = T := ⟨(1 + r3).toNat, by have := HR.out.1.2.2.1; omega⟩
         have FIN := Lib.hid (DS.fin (wB := w) (rb := rb) (cz := pJ) ⟨1 + r0, 1 + r1, 1 + r2, T, 1 + r4, 1 + r5, 1 + r6, r7, 1 + r8, pv, sv⟩ H1.out.2.2.2.1 HI.out.2.2.2.1 (HW.out.2.b) H1.out.2.1 H1.out.2.2.2.2 rfl RR.out HI.out.2.2.2.2.1 (by rw [hT]; rfl) (by have := HR.out.1.1; show 0 < 1 + r0; omega) (by have := HR.out.1.1; show 1 + r0 ≤ 1000; omega) (by have := HR.out.1.2.2.1; show 1 ≤ T; omega) (by have := HR.out.1.2.2.1; show T ≤ 1000; omega))
         have RT := FIN.out.2
         refine bodyPost_ret (v := .agg [.int .i64 (1 + r0), .int .i64 (1 + r1), .int .i64 (1 + r2), .int .i64 (1 + r3), .int .i64 (1 + r4), .int .i64 (1 + r5), .int .i64 (1 + r6), .int .i64 r7, .int .i64 (1 + r8), pv, sv].toArray) ?_ rfl ?_
         · exact results_cell_row (p := 2) (ty := 48) rfl _ _ rb q8 _ _ _ rfl RT Tryz.underlying48 rfl FH
         · refine ⟨_, ?_, FIN.out.1⟩
           show Ending.returned (.agg [.int .i64 (1 + r0), .int .i64 (1 + r1), .int .i64 (1 + r2), .int .i64 (1 + r3), .int .i64 (1 + r4), .int .i64 (1 + r5), .int .i64 (1 + r6), .int .i64 r7, .int .i64 (1 + r8), pv, sv].toArray) = _
           rw [hT]
           rfl
end Go.Proofs.YtncnepmgmphanaaGreatDoor
