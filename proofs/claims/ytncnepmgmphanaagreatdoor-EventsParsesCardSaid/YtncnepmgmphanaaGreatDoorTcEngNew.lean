/- A new engine of the reference (printed by gen_engnew.py). No condition beside those named. -/
import Derived.Test.YtncnepmgmphanaaGreatDoorMg21
import Derived.Deep.DeepCutAuto
import Derived.Deep.LoopGhost
set_option linter.unusedVariables false
set_option linter.unusedSimpArgs false
set_option linter.unusedSectionVars false
namespace Go.Proofs.YtncnepmgmphanaaGreatDoor
open Go.RowKit
variable {B N : Nat}
theorem qL.keep {w w' : World} {c : kT} (h : qL B N w c) (hw : WT kd.sig B N w) (g : Eff (fun _ _ _ => False) w w') : qL B N w' c :=
 ⟨h.all.mono g (Nat.le_refl _), h.w1, h.w2, h.t1, h.t2, (letI : Inhabited cK := bY 0; h.pr.mono hw h.all.2.2.2.2.2.2.2.2.2.1 (g.mono fun _ _ _ _ h => h.elim))⟩
def si (B N : Nat) (c : kT) (w : World) (xb : Nat) (w' : World) : Prop := Eff (fun _ _ _ => False) w w' ∧ w.heap.size ≤ xb ∧ ∃ pe m rs rb cr, (TW pe c m rs).el 19 = .slice (some ⟨rb, 0, none⟩) c.T cr ∧ GX w' (TW pe c m rs) B c.T rb N w' xb
theorem EN.cell1 {c : kT} {w0 w : World} {xb pe k : Nat} {m rs v : Value} {bN cu : Nat → Nat} (h : EN B N c w0 xb pe m rs w v k bN cu) : w.cell? ⟨xb, 1, none⟩ = some v := by
 rw [aa h.ed]; rfl
theorem ag9 (K A J : Int) : Tryz.prog.built 118 [(0, .int .i64 K), (3, .int .i64 A), (7, .int .i64 J)] = some (ja K 0 A J).toArray := by kernel_rfl
theorem agu (K : Int) : Tryz.prog.built 118 [(0, .int .i64 K)] = some (ja K 0 0 0).toArray := by kernel_rfl
theorem ai6 {K A J : Int} {op : Oper} {ρ : Operand → Value} {x0 x1 x2 : Operand} (ho : op.op = .build 118 #[(0, x0), (3, x1), (7, x2)]) (h0 : ρ x0 = .int .i64 K) (h1 : ρ x1 = .int .i64 A) (h2 : ρ x2 = .int .i64 J) (w : World) : (execOp ρ op).run Tryz.prog w = .ok (.value (.agg (ja K 0 A J).toArray)) w := by
 unfold execOp
 simp only [ho, List.map_toArray, List.map_cons, List.map_nil, h0, h1, h2, Sem.run_bind, run_build w 118 _ _ (ag9 K A J), Result.andThen_ok]
 rfl
theorem aja {K : Int} {op : Oper} {ρ : Operand → Value} {x0 : Operand} (ho : op.op = .build 118 #[(0, x0)]) (h0 : ρ x0 = .int .i64 K) (w : World) : (execOp ρ op).run Tryz.prog w = .ok (.value (.agg (ja K 0 0 0).toArray)) w := by
 unfold execOp
 simp only [ho, List.map_toArray, List.map_cons, List.map_nil, h0, Sem.run_bind, run_build w 118 _ _ (agu K), Result.andThen_ok]
 rfl
theorem Um {k T : Nat} (h : 1 ≤ T) (hT : T ≤ 1000) : bB .i64 (Int.tmod (k : Int) (T : Int)) := by
 have h1 : (0 : Int) < T := by omega
 have h2 := Int.tmod_lt_of_pos (k : Int) h1
 have h3 := Int.tmod_nonneg (a := (k : Int)) (T : Int) (by omega)
 exact i64_in (by omega)
set_option maxRecDepth 100000 in
set_option maxHeartbeats 4000000 in
theorem SQ (w : World) (c : kT) (hw : WT kd.sig B N w) (hB : B ≤ w.heap.size) (hN : 131072 ≤ N) (wV : N ≤ 68719476736) (hc : qL B N w c) :
   Calls Tryz.prog 36 #[.agg c.cells.toArray] w fun e w' => ∃ xb, e = .returned (.pointer (some ⟨xb, 0, none⟩)) ∧ si B N c w xb w' := by
 have HW := Lib.hid (And.intro hw (And.intro hB (And.intro hN (And.intro wV hc))))
 clear hw hB hN wV hc
 obtain ⟨W1, hW1⟩ : ∃ W1, W1 = w.alloc (.cells c.cells.toArray 48) := ⟨_, rfl⟩
 have H1 := Lib.hid (show WT kd.sig B N W1 ∧ Eff (fun _ _ _ => False) w W1 ∧ W1.heap[w.heap.size]? = some (.cells c.cells.toArray 48 (0, 0)) ∧ B ≤ W1.heap.size ∧ qL B N W1 c from by
   obtain ⟨hw, hB, hN, wV, hc⟩ := HW.out
   have e : Eff (fun _ _ _ => False) w W1 := by rw [hW1]; exact Eff.bL _ _ _
   exact ⟨by rw [hW1]; exact hw.alloc kCf (aT.one hc.all), e, by rw [hW1]; exact blk_alloc_new _ _, Nat.le_trans hB e.size, hc.keep hw e⟩)
 have HQ := Lib.hid hW1
 clear hW1
 go_enter Tryz.func36, Tryz.ntmps36
 unfold kT.cells
 go_upto_region 1 with fail
 change Code.wp _ _ _ _ (w.alloc (.cells c.cells.toArray 48))
 rw [← HQ.out]
 obtain ⟨cb, hcb⟩ : ∃ cb, cb = w.heap.size := ⟨_, rfl⟩
 have HCB := Lib.hid hcb
 rw [← hcb] at H1
 rw [← hcb]
 clear hcb HQ
 go_cut [3] (fun s3 wx => ∃ xb pe m rs, s3 = .pointer (some ⟨xb, 0, none⟩) ∧ EN B N c W1 xb pe m rs wx (.slice none 0 0) 0 (fun _ => 0) (fun _ => 0))
 case first =>
   have rg := Lib.hid (show W1.rangeAt cb 0 c.cells from dE H1.out.2.2.1)
   have Fx : (Tryz.prog.info? 48).map (·.size) = some c.cells.length := by
     show (Tryz.prog.info? 48).map (·.size) = some 11
     kernel_rfl
   go_wp2_with (with_reducible refine wpList_load_mid rfl 48 (.tmp 1) rfl cb 0 rfl c.cells _ rg.out rfl rfl Fx ?_)
   refine (Rm (B := B) (N := N) W1 c H1.out.1 H1.out.2.2.2.1 HW.out.2.2.1 HW.out.2.2.2.1 H1.out.2.2.2.2).mono ?_
   rintro e w2 ⟨pe, rfl, m, rs, hEM⟩
   have HE := Lib.hid hEM
   clear hEM
   obtain ⟨w3, hw3⟩ : ∃ w3, w3 = w2.alloc (.cells (Df pe (.slice none 0 0)) 70) := ⟨_, rfl⟩
   obtain ⟨xb, hxb⟩ : ∃ xb, xb = w2.heap.size := ⟨_, rfl⟩
   have HN := Lib.hid (show EN B N c W1 xb pe m rs w3 (.slice none 0 0) 0 (fun _ => 0) (fun _ => 0) from by
     obtain ⟨h1, h2, h3, h4, h5, h6, h7⟩ := HE.out
     have e1 : Eff (fun _ _ _ => False) w2 w3 := by rw [hw3]; exact Eff.bL _ _ _
     have hN := HW.out.2.2.1
     have uT : kd.sz 66 = 21 := by kernel_rfl
     have z : aU w2 B N (.int .i64) (.int .i64 0) := ⟨0, rfl, i64_in (by omega)⟩
     have u : aU w2 B N (.int .u64) (.int .u64 0) := ⟨0, rfl, by constructor <;> decide⟩
     have s0 : ∀ E s, aU w2 B N (.sl E s) (.slice none 0 0) := fun E s => ⟨0, [], Nat.zero_le _, World.ownsRow_nil _ _ _ _⟩
     have ok : bJ w2 B N nK (Df pe (.slice none 0 0)).toList := ⟨⟨pe, 0, _, by simp, h4, h3, by simp [iE]⟩, s0 _ _, z, s0 _ _, z, z, u, u, trivial⟩
     exact ⟨by rw [hw3]; exact h1.alloc kE0 (aT.one (l := (Df pe (.slice none 0 0)).toList) ok), h2.trans e1, e1.blk h3 fun _ _ h => h, h5, by rw [hxb]; exact h2.size, by rw [hw3, hxb]; exact blk_alloc_new _ _, .inl ⟨rfl, rfl⟩, fun j hj => absurd hj (Nat.not_lt_zero _), fun j hj => absurd hj (Nat.not_lt_zero _), fun i j hi => absurd hi (Nat.not_lt_zero _), yK h6 e1, h7⟩)
   unfold Df at hw3
   go_upto_region 2 with fail
   try rw [← hw3]
   try rw [← hxb]
   clear hw3 hxb
   go_meet
   exact ⟨xb, pe, m, rs, rfl, HN.out⟩
 case rest =>
   obtain ⟨xb, pe, m, rs, rfl, hEN⟩ := hcut
   obtain ⟨Wn, hWn⟩ : ∃ Wn : Nat, c.W = Wn := ⟨c.W.toNat, by have := HW.out.2.2.2.2.w1; omega⟩
   have oK := Lib.hid (show c.W = Wn ∧ 1 ≤ Wn ∧ Wn ≤ 1000 from ⟨hWn, by have := HW.out.2.2.2.2.w1; omega, by have := HW.out.2.2.2.2.w2; omega⟩)
   have START := Lib.hid (show ∃ (k : Nat) (v : Value) (bN cu : Nat → Nat), (Value.int .i64 0 = .int .i64 k) ∧ k + (Wn + 1) = Wn + 1 ∧ k ≤ Wn ∧ EN B N c W1 xb pe m rs wc v k bN cu from ⟨0, _, _, _, rfl, by omega, by omega, hEN⟩)
   clear hEN hWn
   go_wp2_with fail
   go_loopg [4] (Wn + 1) (fun g s4 wr => ∃ (k : Nat) (v : Value) (bN cu : Nat → Nat), s4 = .int .i64 k ∧ k + g = Wn + 1 ∧ k ≤ Wn ∧ EN B N c W1 xb pe m rs wr v k bN cu)
   case atStart => exact START.out
   case round =>
     clear START
     obtain ⟨k, v, bN, cu, rfl, hg, ht, hS⟩ := hrel
     have aes := hS.aS.blk H1.out.2.2.1 fun _ _ h => h
     have c3 := aa aes 0
     simp [kT.cells] at c3
     by_cases hlt : k < Wn
     · have hlt' : (k : Int) < c.W := by have := oK.out; omega
       have hwl : wrap64 ((k : Int) + 1) = ((k + 1 : Nat) : Int) := by have := oK.out; rw [← IntWalk.i64_left, IntWalk.i64_in _ (by omega)]; omega
       have HQ := Lib.hid (And.intro hS (And.intro hg ht))
       clear hS hg ht aes
       go_wp2_with fail
       obtain ⟨wq, hwq⟩ : ∃ wq, wq = wr.drew := ⟨_, rfl⟩
       have HS := Lib.hid (show EN B N c W1 xb pe m rs wq v k bN cu from by rw [hwq]; exact HQ.out.1.out (HQ.out.1.wt.drew) ((Eff.refl _ _).drew))
       have E5 : ∀ {w' : World} {v' : Value} {k' : Nat} {akU il : Nat → Nat}, EN B N c W1 xb pe m rs w' v' k' akU il → w'.cell? ⟨cb, 3, none⟩ = some (.int .i64 c.T) := fun h => by
         rw [aa (h.aS.blk H1.out.2.2.1 fun _ _ h => h)]; rfl
       have q1 := HS.out.cell1
       have q33 := E5 HS.out
       have hT0 : c.T ≠ 0 := by have := HW.out.2.2.2.2.t1; omega
       have hT1 := HW.out.2.2.2.2.t1
       have hT2 := HW.out.2.2.2.2.t2
       clear c3
       refine wp_region_held_drew (S := fun w' => w'.cell? ⟨cb, 3, none⟩ = some (.int .i64 c.T)) (by kernel_rfl) (by rw [hwq] at q33; exact q33) (fun hHeld => ?_)
       rw [← hwq]
       clear hwq
       refine wpAnyH_take (i := 0) (v := ?_) rfl (by kernel_rfl) (by kernel_rfl) (by kernel_rfl) (fun _ _ _ h => h) (Or.inl ⟨by rfl, ?_⟩) (by assumption) ?_
       rotate_left
       · (intro w hSw; (try dsimp only at hSw); go_simp; try with_reducible rfl)
       refine wpAnyH_take (i := 1) (v := ?_) rfl (by kernel_rfl) (by kernel_rfl) (by kernel_rfl) (fun _ _ _ h => h) (Or.inl ⟨by rfl, ?_⟩) (by assumption) ?_
       rotate_left
       · (intro w hSw; (try dsimp only at hSw); go_simp; try with_reducible rfl)
       refine wpAnyH_take (i := 2) (v := ?_) rfl (by kernel_rfl) (by kernel_rfl) (by kernel_rfl) (fun _ _ _ h => h) (Or.inl ⟨by rfl, ?_⟩) (by assumption) ?_
       rotate_left
       · (intro w hSw; (try dsimp only at hSw); go_simp; try with_reducible rfl)
       refine wpAnyH_take (i := 3) (v := ?_) rfl (by kernel_rfl) (by kernel_rfl) (by kernel_rfl) (fun _ _ _ h => h) (Or.inl ⟨by rfl, ?_⟩) (by assumption) ?_
       rotate_left
       · (intro w hSw; (try dsimp only at hSw); go_simp; try with_reducible rfl)
       refine wpAnyH_take (i := 5) (v := ?_) rfl (by kernel_rfl) (by kernel_rfl) (by kernel_rfl) (fun _ _ _ h => h) (Or.inl ⟨by rfl, ?_⟩) (by assumption) ?_
       rotate_left
       · (intro w hSw; (try dsimp only at hSw); go_simp; try with_reducible rfl)
       refine wpAnyH_take (i := 6) (v := ?_) rfl (by kernel_rfl) (by kernel_rfl) (by kernel_rfl) (fun _ _ _ h => h) (Or.inl ⟨by rfl, ?_⟩) (by assumption) ?_
       rotate_left
       · (intro w hSw; (try dsimp only at hSw); go_simp; try with_reducible rfl)
       refine wpAnyH_take (i := 7) (v := ?_) rfl (by kernel_rfl) (by kernel_rfl) (by kernel_rfl) (fun _ _ _ h => h) (Or.inl ⟨by rfl, ?_⟩) (by assumption) ?_
       rotate_left
       · (intro w hSw; (try dsimp only at hSw); go_simp; try with_reducible rfl)
       refine wpAnyH_take (i := 8) (v := ?_) rfl (by kernel_rfl) (by kernel_rfl) (by kernel_rfl) (fun _ _ _ h => h) (Or.inl ⟨by rfl, ?_⟩) (by assumption) ?_
       rotate_left
       · (intro w hSw; (try dsimp only at hSw); go_simp; try with_reducible rfl)
       refine wpAnyH_take (i := 9) (v := ?_) rfl (by kernel_rfl) (by kernel_rfl) (by kernel_rfl) (fun _ _ _ h => h) (Or.inl ⟨by rfl, ?_⟩) (by assumption) ?_
       rotate_left
       · (intro w hSw; (try dsimp only at hSw); go_simp; try with_reducible rfl)
       try simp only [Act.put, sI]
       obtain ⟨cs, hcs⟩ : ∃ cs, cs = ja 25 0 k (Int.tmod k c.T) := ⟨_, rfl⟩
       refine wpAnyH_take (i := 10) (v := .agg cs.toArray) rfl (by kernel_rfl) (by kernel_rfl) (by kernel_rfl) (fun _ _ _ h => h) (Or.inl ⟨by rfl, ?_⟩) (by assumption) ?_
       · intro w hSw
         rw [hcs]
         refine ai6 (K := 25) (A := k) (J := Int.tmod k c.T) (x0 := .const (.int .i64 25)) (x1 := .tmp 20) (x2 := .tmp 24) ?_ ?_ ?_ ?_ w
         · kernel_rfl
         · kernel_rfl
         · kernel_rfl
         · kernel_rfl
       try simp only [Act.put, sI]
       have HCS := Lib.hid hcs
       clear hcs
       refine wpAnyH_ready (rs := [4, 11]) (by kernel_rfl) (by simp) ?_
       refine AllReadyH.cons rfl (fun K hK => ?_) (AllReadyH.cons rfl (fun K hK => ?_) AllReadyH.nil)
       · go_simp
         refine hK.out _ _ q33 (fun hHeld => ?_)
         clear hK K
         try simp only [Act.put, sI]
         refine wpAnyH_ready (rs := [11]) (by kernel_rfl) (by simp) ?_
         refine AllReadyH.cons rfl (fun K hK => ?_) AllReadyH.nil
         go_simp
         have MK := TV wq k (Int.tmod k c.T)
         rw [← HCS.out] at MK
         refine MK.mono ?_
         rintro e w3 ⟨rfl, hw3⟩
         obtain ⟨mb, hmb⟩ : ∃ mb, mb = wq.heap.size + 2 := ⟨_, rfl⟩
         obtain ⟨fb, dO⟩ : ∃ fb, fb = wq.heap.size + 1 := ⟨_, rfl⟩
         have HF := Lib.hid (show EN B N c W1 xb pe m rs w3 v k bN cu ∧ FM w3 mb fb ∧ (∀ j, j < k → bN j ≠ mb ∧ cu j ≠ fb) ∧ W1.heap.size ≤ mb ∧ W1.heap.size ≤ fb from by
           have hs := HS.out.aS.size
           obtain ⟨g1, g2, g3⟩ := Ai (.inl rfl) HS.out.wt (Nat.le_trans H1.out.2.2.2.1 hs) (by have := HW.out.2.2.1; omega) (i64_in (by have := oK.out; omega)) (by first | exact Um hT1 hT2 | skip) hw3
           exact ⟨HS.out.out g1 g2, by rw [hmb, dO]; exact g3, fun j hj => (by have := HS.out.lt j hj; omega), by omega, by omega⟩)
         try rw [← hmb]
         clear hw3 hmb dO
         have q1b := HF.out.1.cell1
         have Wd := E5 HF.out.1
         refine hK.out _ _ Wd (fun hHeld => ?_)
         clear hK K
         try simp only [Act.put, sI]
         refine wpAnyH_ready (rs := [12]) (by kernel_rfl) (by simp) ?_
         refine AllReadyH.cons rfl (fun K hK => ?_) AllReadyH.nil
         go_simp
         obtain ⟨wz, hwz⟩ : ∃ wz, wz = w3.alloc (.cells #[.pointer (some ⟨mb, 0, none⟩)] 113) := ⟨_, rfl⟩
         obtain ⟨ab, hab⟩ : ∃ ab, ab = w3.heap.size := ⟨_, rfl⟩
         have HZ := Lib.hid (show EN B N c W1 xb pe m rs wz v k bN cu ∧ FM wz mb fb ∧ wz.heap[ab]? = some (.cells #[.pointer (some ⟨mb, 0, none⟩)] PT (0, 0)) from by
           have e1 : Eff (fun _ _ _ => False) w3 wz := by rw [hwz]; exact Eff.bL _ _ _
           have ok : bJ w3 B N [.np] [.pointer (some ⟨mb, 0, none⟩)] := ⟨⟨_, rfl⟩, trivial⟩
           exact ⟨HF.out.1.out (by rw [hwz]; exact HF.out.1.wt.alloc JD (aT.one ok)) e1, HF.out.2.1.out (e1.mono fun _ _ _ _ h => h.elim), by rw [hwz, hab]; exact blk_alloc_new _ _⟩)
         try rw [← hwz]
         try rw [← hab]
         clear hwz hab
         have Uy := HZ.out.1.cell1
         have IW := E5 HZ.out.1
         refine hK.out _ _ IW (fun hHeld => ?_)
         clear hK K
         try simp only [Act.put, sI]
         refine wpAnyH_ready (rs := [13]) (by kernel_rfl) (by simp) ?_
         refine AllReadyH.cons rfl (fun K hK => ?_) AllReadyH.nil
         rw [if_pos (by rfl)]
         refine mP (B := B) (N := N) (B0 := W1.heap.size) (k := k) (bN := bN) (mb := mb) (b := ab) (v := v) rfl rfl rfl HZ.out.1.wt H1.out.2.2.2.1 HZ.out.1.aS.size HZ.out.1.ls HZ.out.2.2 (by have := oK.out; omega) ?_
         intro lb kc w5 hA
         have PU := Lib.hid (HZ.out.1.push H1.out.2.2.2.1 (by have := oK.out; have := HW.out.2.2.1; omega) HZ.out.2.1 HF.out.2.2.1 HF.out.2.2.2 hA)
         have iP := HZ.out.1.Ma hA.aS
         have q1d : w5.cell? ⟨xb, 1, none⟩ = some v := by rw [aa iP]; rfl
         have f5 := ay iP 1
         have QK : w5.cell? ⟨cb, 3, none⟩ = some (.int .i64 c.T) := by
           obtain ⟨c1, l1, -, l3⟩ := hA.aS.cells _ _ _ _ (HZ.out.1.aS.blk H1.out.2.2.1 fun _ _ h => h)
           rw [aa l1, l3 3 fun hh => absurd hh.2 (by decide)]
           rfl
         clear hA iP
         refine hK.out _ _ QK (fun hHeld => ?_)
         clear hK K
         try simp only [Act.put, sI]
         refine wpAnyH_take (i := 14) (v := ?_) rfl (by kernel_rfl) (by kernel_rfl) (by kernel_rfl) (fun _ _ _ h => h) (Or.inl ⟨by rfl, ?_⟩) (by assumption) ?_
         rotate_left
         · (intro w hSw; (try dsimp only at hSw); go_simp; try with_reducible rfl)
         refine wpAnyH_take (i := 15) (v := ?_) rfl (by kernel_rfl) (by kernel_rfl) (by kernel_rfl) (fun _ _ _ h => h) (Or.inl ⟨by rfl, ?_⟩) (by assumption) ?_
         rotate_left
         · (intro w hSw; (try dsimp only at hSw); go_simp; try with_reducible rfl)
         try simp only [Act.put, sI]
         refine wpAnyH_ready (rs := [16]) (by kernel_rfl) (by simp) ?_
         refine AllReadyH.cons rfl (fun K hK => ?_) AllReadyH.nil
         go_simp
         refine hK.out _ _ (E5 PU.out) (fun hHeld => ?_)
         clear hK K
         try simp only [Act.put, sI]
         refine wpAnyH_done (by kernel_rfl) ?_ _
         go_wp2_with fail
         go_roundg (Wn - k)
         case measure =>
           have := HQ.out.2.1
           omega
         case rel =>
           have := HQ.out.2.1
           exact ⟨k + 1, _, _, _, by first | rw [hwl] | simp, by omega, by omega, PU.out⟩
       · go_simp
         have MK := TV wq k (Int.tmod k c.T)
         rw [← HCS.out] at MK
         refine MK.mono ?_
         rintro e w3 ⟨rfl, hw3⟩
         obtain ⟨mb, hmb⟩ : ∃ mb, mb = wq.heap.size + 2 := ⟨_, rfl⟩
         obtain ⟨fb, dO⟩ : ∃ fb, fb = wq.heap.size + 1 := ⟨_, rfl⟩
         have HF := Lib.hid (show EN B N c W1 xb pe m rs w3 v k bN cu ∧ FM w3 mb fb ∧ (∀ j, j < k → bN j ≠ mb ∧ cu j ≠ fb) ∧ W1.heap.size ≤ mb ∧ W1.heap.size ≤ fb from by
           have hs := HS.out.aS.size
           obtain ⟨g1, g2, g3⟩ := Ai (.inl rfl) HS.out.wt (Nat.le_trans H1.out.2.2.2.1 hs) (by have := HW.out.2.2.1; omega) (i64_in (by have := oK.out; omega)) (by first | exact Um hT1 hT2 | skip) hw3
           exact ⟨HS.out.out g1 g2, by rw [hmb, dO]; exact g3, fun j hj => (by have := HS.out.lt j hj; omega), by omega, by omega⟩)
         try rw [← hmb]
         clear hw3 hmb dO
         have q1b := HF.out.1.cell1
         have Wd := E5 HF.out.1
         refine hK.out _ _ Wd (fun hHeld => ?_)
         clear hK K
         try simp only [Act.put, sI]
         refine wpAnyH_ready (rs := [4, 12]) (by kernel_rfl) (by simp) ?_
         refine AllReadyH.cons rfl (fun K hK => ?_) (AllReadyH.cons rfl (fun K hK => ?_) AllReadyH.nil)
         · go_simp
           refine hK.out _ _ Wd (fun hHeld => ?_)
           clear hK K
           try simp only [Act.put, sI]
           refine wpAnyH_ready (rs := [12]) (by kernel_rfl) (by simp) ?_
           refine AllReadyH.cons rfl (fun K hK => ?_) AllReadyH.nil
           go_simp
           obtain ⟨wz, hwz⟩ : ∃ wz, wz = w3.alloc (.cells #[.pointer (some ⟨mb, 0, none⟩)] 113) := ⟨_, rfl⟩
           obtain ⟨ab, hab⟩ : ∃ ab, ab = w3.heap.size := ⟨_, rfl⟩
           have HZ := Lib.hid (show EN B N c W1 xb pe m rs wz v k bN cu ∧ FM wz mb fb ∧ wz.heap[ab]? = some (.cells #[.pointer (some ⟨mb, 0, none⟩)] PT (0, 0)) from by
             have e1 : Eff (fun _ _ _ => False) w3 wz := by rw [hwz]; exact Eff.bL _ _ _
             have ok : bJ w3 B N [.np] [.pointer (some ⟨mb, 0, none⟩)] := ⟨⟨_, rfl⟩, trivial⟩
             exact ⟨HF.out.1.out (by rw [hwz]; exact HF.out.1.wt.alloc JD (aT.one ok)) e1, HF.out.2.1.out (e1.mono fun _ _ _ _ h => h.elim), by rw [hwz, hab]; exact blk_alloc_new _ _⟩)
           try rw [← hwz]
           try rw [← hab]
           clear hwz hab
           have Uy := HZ.out.1.cell1
           have IW := E5 HZ.out.1
           refine hK.out _ _ IW (fun hHeld => ?_)
           clear hK K
           try simp only [Act.put, sI]
           refine wpAnyH_ready (rs := [13]) (by kernel_rfl) (by simp) ?_
           refine AllReadyH.cons rfl (fun K hK => ?_) AllReadyH.nil
           rw [if_pos (by rfl)]
           refine mP (B := B) (N := N) (B0 := W1.heap.size) (k := k) (bN := bN) (mb := mb) (b := ab) (v := v) rfl rfl rfl HZ.out.1.wt H1.out.2.2.2.1 HZ.out.1.aS.size HZ.out.1.ls HZ.out.2.2 (by have := oK.out; omega) ?_
           intro lb kc w5 hA
           have PU := Lib.hid (HZ.out.1.push H1.out.2.2.2.1 (by have := oK.out; have := HW.out.2.2.1; omega) HZ.out.2.1 HF.out.2.2.1 HF.out.2.2.2 hA)
           have iP := HZ.out.1.Ma hA.aS
           have q1d : w5.cell? ⟨xb, 1, none⟩ = some v := by rw [aa iP]; rfl
           have f5 := ay iP 1
           have QK : w5.cell? ⟨cb, 3, none⟩ = some (.int .i64 c.T) := by
             obtain ⟨c1, l1, -, l3⟩ := hA.aS.cells _ _ _ _ (HZ.out.1.aS.blk H1.out.2.2.1 fun _ _ h => h)
             rw [aa l1, l3 3 fun hh => absurd hh.2 (by decide)]
             rfl
           clear hA iP
           refine hK.out _ _ QK (fun hHeld => ?_)
           clear hK K
           try simp only [Act.put, sI]
           refine wpAnyH_take (i := 14) (v := ?_) rfl (by kernel_rfl) (by kernel_rfl) (by kernel_rfl) (fun _ _ _ h => h) (Or.inl ⟨by rfl, ?_⟩) (by assumption) ?_
           rotate_left
           · (intro w hSw; (try dsimp only at hSw); go_simp; try with_reducible rfl)
           refine wpAnyH_take (i := 15) (v := ?_) rfl (by kernel_rfl) (by kernel_rfl) (by kernel_rfl) (fun _ _ _ h => h) (Or.inl ⟨by rfl, ?_⟩) (by assumption) ?_
           rotate_left
           · (intro w hSw; (try dsimp only at hSw); go_simp; try with_reducible rfl)
           try simp only [Act.put, sI]
           refine wpAnyH_ready (rs := [16]) (by kernel_rfl) (by simp) ?_
           refine AllReadyH.cons rfl (fun K hK => ?_) AllReadyH.nil
           go_simp
           refine hK.out _ _ (E5 PU.out) (fun hHeld => ?_)
           clear hK K
           try simp only [Act.put, sI]
           refine wpAnyH_done (by kernel_rfl) ?_ _
           go_wp2_with fail
           go_roundg (Wn - k)
           case measure =>
             have := HQ.out.2.1
             omega
           case rel =>
             have := HQ.out.2.1
             exact ⟨k + 1, _, _, _, by first | rw [hwl] | simp, by omega, by omega, PU.out⟩
         · go_simp
           obtain ⟨wz, hwz⟩ : ∃ wz, wz = w3.alloc (.cells #[.pointer (some ⟨mb, 0, none⟩)] 113) := ⟨_, rfl⟩
           obtain ⟨ab, hab⟩ : ∃ ab, ab = w3.heap.size := ⟨_, rfl⟩
           have HZ := Lib.hid (show EN B N c W1 xb pe m rs wz v k bN cu ∧ FM wz mb fb ∧ wz.heap[ab]? = some (.cells #[.pointer (some ⟨mb, 0, none⟩)] PT (0, 0)) from by
             have e1 : Eff (fun _ _ _ => False) w3 wz := by rw [hwz]; exact Eff.bL _ _ _
             have ok : bJ w3 B N [.np] [.pointer (some ⟨mb, 0, none⟩)] := ⟨⟨_, rfl⟩, trivial⟩
             exact ⟨HF.out.1.out (by rw [hwz]; exact HF.out.1.wt.alloc JD (aT.one ok)) e1, HF.out.2.1.out (e1.mono fun _ _ _ _ h => h.elim), by rw [hwz, hab]; exact blk_alloc_new _ _⟩)
           try rw [← hwz]
           try rw [← hab]
           clear hwz hab
           have Uy := HZ.out.1.cell1
           have IW := E5 HZ.out.1
           refine hK.out _ _ IW (fun hHeld => ?_)
           clear hK K
           try simp only [Act.put, sI]
           refine wpAnyH_ready (rs := [4]) (by kernel_rfl) (by simp) ?_
           refine AllReadyH.cons rfl (fun K hK => ?_) AllReadyH.nil
           go_simp
           refine hK.out _ _ IW (fun hHeld => ?_)
           clear hK K
           try simp only [Act.put, sI]
           refine wpAnyH_ready (rs := [13]) (by kernel_rfl) (by simp) ?_
           refine AllReadyH.cons rfl (fun K hK => ?_) AllReadyH.nil
           rw [if_pos (by rfl)]
           refine mP (B := B) (N := N) (B0 := W1.heap.size) (k := k) (bN := bN) (mb := mb) (b := ab) (v := v) rfl rfl rfl HZ.out.1.wt H1.out.2.2.2.1 HZ.out.1.aS.size HZ.out.1.ls HZ.out.2.2 (by have := oK.out; omega) ?_
           intro lb kc w5 hA
           have PU := Lib.hid (HZ.out.1.push H1.out.2.2.2.1 (by have := oK.out; have := HW.out.2.2.1; omega) HZ.out.2.1 HF.out.2.2.1 HF.out.2.2.2 hA)
           have iP := HZ.out.1.Ma hA.aS
           have q1d : w5.cell? ⟨xb, 1, none⟩ = some v := by rw [aa iP]; rfl
           have f5 := ay iP 1
           have QK : w5.cell? ⟨cb, 3, none⟩ = some (.int .i64 c.T) := by
             obtain ⟨c1, l1, -, l3⟩ := hA.aS.cells _ _ _ _ (HZ.out.1.aS.blk H1.out.2.2.1 fun _ _ h => h)
             rw [aa l1, l3 3 fun hh => absurd hh.2 (by decide)]
             rfl
           clear hA iP
           refine hK.out _ _ QK (fun hHeld => ?_)
           clear hK K
           try simp only [Act.put, sI]
           refine wpAnyH_take (i := 14) (v := ?_) rfl (by kernel_rfl) (by kernel_rfl) (by kernel_rfl) (fun _ _ _ h => h) (Or.inl ⟨by rfl, ?_⟩) (by assumption) ?_
           rotate_left
           · (intro w hSw; (try dsimp only at hSw); go_simp; try with_reducible rfl)
           refine wpAnyH_take (i := 15) (v := ?_) rfl (by kernel_rfl) (by kernel_rfl) (by kernel_rfl) (fun _ _ _ h => h) (Or.inl ⟨by rfl, ?_⟩) (by assumption) ?_
           rotate_left
           · (intro w hSw; (try dsimp only at hSw); go_simp; try with_reducible rfl)
           try simp only [Act.put, sI]
           refine wpAnyH_ready (rs := [16]) (by kernel_rfl) (by simp) ?_
           refine AllReadyH.cons rfl (fun K hK => ?_) AllReadyH.nil
           go_simp
           refine hK.out _ _ (E5 PU.out) (fun hHeld => ?_)
           clear hK K
           try simp only [Act.put, sI]
           refine wpAnyH_done (by kernel_rfl) ?_ _
           go_wp2_with fail
           go_roundg (Wn - k)
           case measure =>
             have := HQ.out.2.1
             omega
           case rel =>
             have := HQ.out.2.1
             exact ⟨k + 1, _, _, _, by first | rw [hwl] | simp, by omega, by omega, PU.out⟩
     · have hlt' : ¬ (k : Int) < c.W := by have := oK.out; omega
       have HQ := Lib.hid hS
       clear hS hg aes
       go_wp2_with fail
       obtain ⟨wq, hwq⟩ : ∃ wq, wq = wr.drew := ⟨_, rfl⟩
       have HS := Lib.hid (show EN B N c W1 xb pe m rs wq v k bN cu from by rw [hwq]; exact HQ.out.out (HQ.out.wt.drew) ((Eff.refl _ _).drew))
       have q1 := HS.out.cell1
       refine wp_region_any (by kernel_rfl) ?_
       change wpAny _ _ _ _ _ _ _ wr.drew
       rw [← hwq]
       clear hwq c3
       refine wpAny_take (i := 0) (v := ?_) rfl (by kernel_rfl) (by kernel_rfl) (by kernel_rfl) (fun _ _ _ h => h) (Or.inl ⟨by rfl, ?_⟩) ?_
       rotate_left
       · (intro w; go_simp; try with_reducible rfl)
       refine wpAny_take (i := 1) (v := ?_) rfl (by kernel_rfl) (by kernel_rfl) (by kernel_rfl) (fun _ _ _ h => h) (Or.inl ⟨by rfl, ?_⟩) ?_
       rotate_left
       · (intro w; go_simp; try with_reducible rfl)
       refine wpAny_take (i := 2) (v := ?_) rfl (by kernel_rfl) (by kernel_rfl) (by kernel_rfl) (fun _ _ _ h => h) (Or.inl ⟨by rfl, ?_⟩) ?_
       rotate_left
       · (intro w; go_simp; try with_reducible rfl)
       refine wpAny_take (i := 3) (v := ?_) rfl (by kernel_rfl) (by kernel_rfl) (by kernel_rfl) (fun _ _ _ h => h) (Or.inl ⟨by rfl, ?_⟩) ?_
       rotate_left
       · (intro w; go_simp; try with_reducible rfl)
       try simp only [Act.put, sI]
       obtain ⟨cs, hcs⟩ : ∃ cs, cs = ja 26 0 0 0 := ⟨_, rfl⟩
       refine wpAny_take (i := 5) (v := .agg cs.toArray) rfl (by kernel_rfl) (by kernel_rfl) (by kernel_rfl) (fun _ _ _ h => h) (Or.inl ⟨by rfl, ?_⟩) ?_
       · intro w
         rw [hcs]
         refine aja (K := 26) (x0 := .const (.int .i64 26)) ?_ ?_ w
         · kernel_rfl
         · kernel_rfl
       try simp only [Act.put, sI]
       have HCS := Lib.hid hcs
       clear hcs
       refine wpAny_ready (rs := [4, 6]) (by kernel_rfl) (by simp) ?_
       refine AllReady.cons rfl (fun K hK => ?_) (AllReady.cons rfl (fun K hK => ?_) AllReady.nil)
       · go_simp
         refine hK _ _ ?_
         clear hK K
         try simp only [Act.put, sI]
         refine wpAny_ready (rs := [6]) (by kernel_rfl) (by simp) ?_
         refine AllReady.cons rfl (fun K hK => ?_) AllReady.nil
         go_simp
         have MK := TQ wq 0 0
         rw [← HCS.out] at MK
         refine MK.mono ?_
         rintro e w3 ⟨rfl, hw3⟩
         obtain ⟨mb, hmb⟩ : ∃ mb, mb = wq.heap.size + 2 := ⟨_, rfl⟩
         obtain ⟨fb, dO⟩ : ∃ fb, fb = wq.heap.size + 1 := ⟨_, rfl⟩
         have HF := Lib.hid (show EN B N c W1 xb pe m rs w3 v k bN cu ∧ FM w3 mb fb ∧ (∀ j, j < k → bN j ≠ mb ∧ cu j ≠ fb) ∧ W1.heap.size ≤ mb ∧ W1.heap.size ≤ fb from by
           have hs := HS.out.aS.size
           obtain ⟨g1, g2, g3⟩ := Ai (.inr rfl) HS.out.wt (Nat.le_trans H1.out.2.2.2.1 hs) (by have := HW.out.2.2.1; omega) (i64_in (by omega)) (i64_in (by omega)) hw3
           exact ⟨HS.out.out g1 g2, by rw [hmb, dO]; exact g3, fun j hj => (by have := HS.out.lt j hj; omega), by omega, by omega⟩)
         try rw [← hmb]
         clear hw3 hmb dO
         have q1b := HF.out.1.cell1
         refine hK _ _ ?_
         clear hK K
         try simp only [Act.put, sI]
         refine wpAny_ready (rs := [7]) (by kernel_rfl) (by simp) ?_
         refine AllReady.cons rfl (fun K hK => ?_) AllReady.nil
         go_simp
         obtain ⟨wz, hwz⟩ : ∃ wz, wz = w3.alloc (.cells #[.pointer (some ⟨mb, 0, none⟩)] 113) := ⟨_, rfl⟩
         obtain ⟨ab, hab⟩ : ∃ ab, ab = w3.heap.size := ⟨_, rfl⟩
         have HZ := Lib.hid (show EN B N c W1 xb pe m rs wz v k bN cu ∧ FM wz mb fb ∧ wz.heap[ab]? = some (.cells #[.pointer (some ⟨mb, 0, none⟩)] PT (0, 0)) from by
           have e1 : Eff (fun _ _ _ => False) w3 wz := by rw [hwz]; exact Eff.bL _ _ _
           have ok : bJ w3 B N [.np] [.pointer (some ⟨mb, 0, none⟩)] := ⟨⟨_, rfl⟩, trivial⟩
           exact ⟨HF.out.1.out (by rw [hwz]; exact HF.out.1.wt.alloc JD (aT.one ok)) e1, HF.out.2.1.out (e1.mono fun _ _ _ _ h => h.elim), by rw [hwz, hab]; exact blk_alloc_new _ _⟩)
         try rw [← hwz]
         try rw [← hab]
         clear hwz hab
         have Uy := HZ.out.1.cell1
         refine hK _ _ ?_
         clear hK K
         try simp only [Act.put, sI]
         refine wpAny_ready (rs := [8]) (by kernel_rfl) (by simp) ?_
         refine AllReady.cons rfl (fun K hK => ?_) AllReady.nil
         rw [if_pos (by rfl)]
         refine mP (B := B) (N := N) (B0 := W1.heap.size) (k := k) (bN := bN) (mb := mb) (b := ab) (v := v) rfl rfl rfl HZ.out.1.wt H1.out.2.2.2.1 HZ.out.1.aS.size HZ.out.1.ls HZ.out.2.2 (by have := oK.out; omega) ?_
         intro lb kc w5 hA
         have PU := Lib.hid (HZ.out.1.push H1.out.2.2.2.1 (by have := oK.out; have := HW.out.2.2.1; omega) HZ.out.2.1 HF.out.2.2.1 HF.out.2.2.2 hA)
         have iP := HZ.out.1.Ma hA.aS
         have q1d : w5.cell? ⟨xb, 1, none⟩ = some v := by rw [aa iP]; rfl
         have f5 := ay iP 1
         clear hA iP
         refine hK _ _ ?_
         clear hK K
         try simp only [Act.put, sI]
         refine wpAny_take (i := 9) (v := ?_) rfl (by kernel_rfl) (by kernel_rfl) (by kernel_rfl) (fun _ _ _ h => h) (Or.inl ⟨by rfl, ?_⟩) ?_
         rotate_left
         · (intro w; go_simp; try with_reducible rfl)
         refine wpAny_take (i := 10) (v := ?_) rfl (by kernel_rfl) (by kernel_rfl) (by kernel_rfl) (fun _ _ _ h => h) (Or.inl ⟨by rfl, ?_⟩) ?_
         rotate_left
         · (intro w; go_simp; try with_reducible rfl)
         try simp only [Act.put, sI]
         refine wpAny_ready (rs := [11]) (by kernel_rfl) (by simp) ?_
         refine AllReady.cons rfl (fun K hK => ?_) AllReady.nil
         go_simp
         refine hK _ _ ?_
         clear hK K
         try simp only [Act.put, sI]
         refine wpAny_done (by kernel_rfl) ?_ _
         have FIN := Lib.hid (show si B N c w xb _ from (by
           obtain ⟨rb, cr, g1, g2⟩ := PU.out.gx H1.out.2.2.2.2 H1.out.1 H1.out.2.2.2.1 (by omega) (by have := oK.out; omega)
           exact ⟨H1.out.2.1.trans PU.out.aS, Nat.le_trans H1.out.2.1.size PU.out.PM, pe, m, rs, rb, cr, g1, g2⟩))
         go_wp2_with fail
         refine bodyPost_ret (results_tmp rfl _ _ _) rfl ?_
         exact ⟨xb, rfl, FIN.out⟩
       · go_simp
         have MK := TQ wq 0 0
         rw [← HCS.out] at MK
         refine MK.mono ?_
         rintro e w3 ⟨rfl, hw3⟩
         obtain ⟨mb, hmb⟩ : ∃ mb, mb = wq.heap.size + 2 := ⟨_, rfl⟩
         obtain ⟨fb, dO⟩ : ∃ fb, fb = wq.heap.size + 1 := ⟨_, rfl⟩
         have HF := Lib.hid (show EN B N c W1 xb pe m rs w3 v k bN cu ∧ FM w3 mb fb ∧ (∀ j, j < k → bN j ≠ mb ∧ cu j ≠ fb) ∧ W1.heap.size ≤ mb ∧ W1.heap.size ≤ fb from by
           have hs := HS.out.aS.size
           obtain ⟨g1, g2, g3⟩ := Ai (.inr rfl) HS.out.wt (Nat.le_trans H1.out.2.2.2.1 hs) (by have := HW.out.2.2.1; omega) (i64_in (by omega)) (i64_in (by omega)) hw3
           exact ⟨HS.out.out g1 g2, by rw [hmb, dO]; exact g3, fun j hj => (by have := HS.out.lt j hj; omega), by omega, by omega⟩)
         try rw [← hmb]
         clear hw3 hmb dO
         have q1b := HF.out.1.cell1
         refine hK _ _ ?_
         clear hK K
         try simp only [Act.put, sI]
         refine wpAny_ready (rs := [4, 7]) (by kernel_rfl) (by simp) ?_
         refine AllReady.cons rfl (fun K hK => ?_) (AllReady.cons rfl (fun K hK => ?_) AllReady.nil)
         · go_simp
           refine hK _ _ ?_
           clear hK K
           try simp only [Act.put, sI]
           refine wpAny_ready (rs := [7]) (by kernel_rfl) (by simp) ?_
           refine AllReady.cons rfl (fun K hK => ?_) AllReady.nil
           go_simp
           obtain ⟨wz, hwz⟩ : ∃ wz, wz = w3.alloc (.cells #[.pointer (some ⟨mb, 0, none⟩)] 113) := ⟨_, rfl⟩
           obtain ⟨ab, hab⟩ : ∃ ab, ab = w3.heap.size := ⟨_, rfl⟩
           have HZ := Lib.hid (show EN B N c W1 xb pe m rs wz v k bN cu ∧ FM wz mb fb ∧ wz.heap[ab]? = some (.cells #[.pointer (some ⟨mb, 0, none⟩)] PT (0, 0)) from by
             have e1 : Eff (fun _ _ _ => False) w3 wz := by rw [hwz]; exact Eff.bL _ _ _
             have ok : bJ w3 B N [.np] [.pointer (some ⟨mb, 0, none⟩)] := ⟨⟨_, rfl⟩, trivial⟩
             exact ⟨HF.out.1.out (by rw [hwz]; exact HF.out.1.wt.alloc JD (aT.one ok)) e1, HF.out.2.1.out (e1.mono fun _ _ _ _ h => h.elim), by rw [hwz, hab]; exact blk_alloc_new _ _⟩)
           try rw [← hwz]
           try rw [← hab]
           clear hwz hab
           have Uy := HZ.out.1.cell1
           refine hK _ _ ?_
           clear hK K
           try simp only [Act.put, sI]
           refine wpAny_ready (rs := [8]) (by kernel_rfl) (by simp) ?_
           refine AllReady.cons rfl (fun K hK => ?_) AllReady.nil
           rw [if_pos (by rfl)]
           refine mP (B := B) (N := N) (B0 := W1.heap.size) (k := k) (bN := bN) (mb := mb) (b := ab) (v := v) rfl rfl rfl HZ.out.1.wt H1.out.2.2.2.1 HZ.out.1.aS.size HZ.out.1.ls HZ.out.2.2 (by have := oK.out; omega) ?_
           intro lb kc w5 hA
           have PU := Lib.hid (HZ.out.1.push H1.out.2.2.2.1 (by have := oK.out; have := HW.out.2.2.1; omega) HZ.out.2.1 HF.out.2.2.1 HF.out.2.2.2 hA)
           have iP := HZ.out.1.Ma hA.aS
           have q1d : w5.cell? ⟨xb, 1, none⟩ = some v := by rw [aa iP]; rfl
           have f5 := ay iP 1
           clear hA iP
           refine hK _ _ ?_
           clear hK K
           try simp only [Act.put, sI]
           refine wpAny_take (i := 9) (v := ?_) rfl (by kernel_rfl) (by kernel_rfl) (by kernel_rfl) (fun _ _ _ h => h) (Or.inl ⟨by rfl, ?_⟩) ?_
           rotate_left
           · (intro w; go_simp; try with_reducible rfl)
           refine wpAny_take (i := 10) (v := ?_) rfl (by kernel_rfl) (by kernel_rfl) (by kernel_rfl) (fun _ _ _ h => h) (Or.inl ⟨by rfl, ?_⟩) ?_
           rotate_left
           · (intro w; go_simp; try with_reducible rfl)
           try simp only [Act.put, sI]
           refine wpAny_ready (rs := [11]) (by kernel_rfl) (by simp) ?_
           refine AllReady.cons rfl (fun K hK => ?_) AllReady.nil
           go_simp
           refine hK _ _ ?_
           clear hK K
           try simp only [Act.put, sI]
           refine wpAny_done (by kernel_rfl) ?_ _
           have FIN := Lib.hid (show si B N c w xb _ from (by
             obtain ⟨rb, cr, g1, g2⟩ := PU.out.gx H1.out.2.2.2.2 H1.out.1 H1.out.2.2.2.1 (by omega) (by have := oK.out; omega)
             exact ⟨H1.out.2.1.trans PU.out.aS, Nat.le_trans H1.out.2.1.size PU.out.PM, pe, m, rs, rb, cr, g1, g2⟩))
           go_wp2_with fail
           refine bodyPost_ret (results_tmp rfl _ _ _) rfl ?_
           exact ⟨xb, rfl, FIN.out⟩
         · go_simp
           obtain ⟨wz, hwz⟩ : ∃ wz, wz = w3.alloc (.cells #[.pointer (some ⟨mb, 0, none⟩)] 113) := ⟨_, rfl⟩
           obtain ⟨ab, hab⟩ : ∃ ab, ab = w3.heap.size := ⟨_, rfl⟩
           have HZ := Lib.hid (show EN B N c W1 xb pe m rs wz v k bN cu ∧ FM wz mb fb ∧ wz.heap[ab]? = some (.cells #[.pointer (some ⟨mb, 0, none⟩)] PT (0, 0)) from by
             have e1 : Eff (fun _ _ _ => False) w3 wz := by rw [hwz]; exact Eff.bL _ _ _
             have ok : bJ w3 B N [.np] [.pointer (some ⟨mb, 0, none⟩)] := ⟨⟨_, rfl⟩, trivial⟩
             exact ⟨HF.out.1.out (by rw [hwz]; exact HF.out.1.wt.alloc JD (aT.one ok)) e1, HF.out.2.1.out (e1.mono fun _ _ _ _ h => h.elim), by rw [hwz, hab]; exact blk_alloc_new _ _⟩)
           try rw [← hwz]
           try rw [← hab]
           clear hwz hab
           have Uy := HZ.out.1.cell1
           refine hK _ _ ?_
           clear hK K
           try simp only [Act.put, sI]
           refine wpAny_ready (rs := [4]) (by kernel_rfl) (by simp) ?_
           refine AllReady.cons rfl (fun K hK => ?_) AllReady.nil
           go_simp
           refine hK _ _ ?_
           clear hK K
           try simp only [Act.put, sI]
           refine wpAny_ready (rs := [8]) (by kernel_rfl) (by simp) ?_
           refine AllReady.cons rfl (fun K hK => ?_) AllReady.nil
           rw [if_pos (by rfl)]
           refine mP (B := B) (N := N) (B0 := W1.heap.size) (k := k) (bN := bN) (mb := mb) (b := ab) (v := v) rfl rfl rfl HZ.out.1.wt H1.out.2.2.2.1 HZ.out.1.aS.size HZ.out.1.ls HZ.out.2.2 (by have := oK.out; omega) ?_
           intro lb kc w5 hA
           have PU := Lib.hid (HZ.out.1.push H1.out.2.2.2.1 (by have := oK.out; have := HW.out.2.2.1; omega) HZ.out.2.1 HF.out.2.2.1 HF.out.2.2.2 hA)
           have iP := HZ.out.1.Ma hA.aS
           have q1d : w5.cell? ⟨xb, 1, none⟩ = some v := by rw [aa iP]; rfl
           have f5 := ay iP 1
           clear hA iP
           refine hK _ _ ?_
           clear hK K
           try simp only [Act.put, sI]
           refine wpAny_take (i := 9) (v := ?_) rfl (by kernel_rfl) (by kernel_rfl) (by kernel_rfl) (fun _ _ _ h => h) (Or.inl ⟨by rfl, ?_⟩) ?_
           rotate_left
           · (intro w; go_simp; try with_reducible rfl)
           refine wpAny_take (i := 10) (v := ?_) rfl (by kernel_rfl) (by kernel_rfl) (by kernel_rfl) (fun _ _ _ h => h) (Or.inl ⟨by rfl, ?_⟩) ?_
           rotate_left
           · (intro w; go_simp; try with_reducible rfl)
           try simp only [Act.put, sI]
           refine wpAny_ready (rs := [11]) (by kernel_rfl) (by simp) ?_
           refine AllReady.cons rfl (fun K hK => ?_) AllReady.nil
           go_simp
           refine hK _ _ ?_
           clear hK K
           try simp only [Act.put, sI]
           refine wpAny_done (by kernel_rfl) ?_ _
           have FIN := Lib.hid (show si B N c w xb _ from (by
             obtain ⟨rb, cr, g1, g2⟩ := PU.out.gx H1.out.2.2.2.2 H1.out.1 H1.out.2.2.2.1 (by omega) (by have := oK.out; omega)
             exact ⟨H1.out.2.1.trans PU.out.aS, Nat.le_trans H1.out.2.1.size PU.out.PM, pe, m, rs, rb, cr, g1, g2⟩))
           go_wp2_with fail
           refine bodyPost_ret (results_tmp rfl _ _ _) rfl ?_
           exact ⟨xb, rfl, FIN.out⟩
end Go.Proofs.YtncnepmgmphanaaGreatDoor
