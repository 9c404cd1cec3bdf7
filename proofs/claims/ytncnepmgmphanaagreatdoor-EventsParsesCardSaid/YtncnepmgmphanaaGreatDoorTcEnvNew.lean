/- A new environment of the reference (printed by gen_envnew.py). No condition beside those named. -/
import Derived.Test.YtncnepmgmphanaaGreatDoorMg19
import Derived.Deep.DeepCutAuto
import Derived.Deep.LoopGhost
set_option linter.unusedVariables false
set_option linter.unusedSimpArgs false
set_option linter.unusedSectionVars false
namespace Go.Proofs.YtncnepmgmphanaaGreatDoor
open Go.RowKit
variable {B N : Nat}
structure kT where
 W : Int
 L : Int
 Cl : Int
 T : Nat
 D : Int
 H : Int
 Ba : Int
 Ag : Int
 Pa : Int
 ps : Value
 ss : Value
def kT.cells (c : kT) : List Value := [.int .i64 c.W, .int .i64 c.L, .int .i64 c.Cl, .int .i64 c.T, .int .i64 c.D, .int .i64 c.H, .int .i64 c.Ba, .int .i64 c.Ag, .int .i64 c.Pa, c.ps, c.ss]
structure qL (B N : Nat) (w : World) (c : kT) : Prop where
 all : bJ w B N bK c.cells
 w1 : 0 < c.W
 w2 : c.W ≤ 1000
 t1 : 1 ≤ c.T
 t2 : c.T ≤ 1000
 pr : qX w c.ps
def iE (c : kT) (m rs : Value) : Array Value := #[.int .i64 c.W, .int .i64 c.L, .int .i64 c.Cl, .int .i64 c.T, .int .i64 c.D, .int .i64 c.H, .int .i64 c.Ba, .int .i64 c.Ag, .int .i64 c.Pa, c.ps, c.ss, m, .int .i64 0, .int .i64 0, .int .u64 0, .int .u64 0, .int .i64 0, .int .i64 0, .int .i64 0, rs, .slice none 0 0]
theorem kEv : kd.sig 66 = some fQ := by kernel_rfl
theorem kCf : kd.sig 48 = some bK := by kernel_rfl
theorem aiA {w : World} {c : kT} {m rs : Value} (hc : bJ w B N bK c.cells) (hm : aU w B N (.sl 59 1) m) (hr : aU w B N (.sl 137 7) rs) : bJ w B N fQ (iE c m rs).toList := by
 obtain ⟨h0, h1, h2, h3, h4, h5, h6, h7, h8, h9, h10, -⟩ := hc
 have z : aU w B N (.int .i64) (.int .i64 0) := ⟨0, rfl, i64_in (by omega)⟩
 have u : aU w B N (.int .u64) (.int .u64 0) := ⟨0, rfl, by constructor <;> decide⟩
 exact ⟨h0, h1, h2, h3, h4, h5, h6, h7, h8, h9, h10, hm, z, z, u, u, z, z, z, hr, ⟨0, [], Nat.zero_le _, World.ownsRow_nil _ _ _ _⟩, trivial⟩
structure pU (B N : Nat) (w : World) (c : kT) (cb pe : Nat) (m rs : Value) (t : Nat) (wr : World) : Prop where
 wt : WT kd.sig B N wr
 aS : Eff (fun _ _ _ => False) w wr
 env : wr.heap[pe]? = some (.cells (iE c m rs) 66 (0, 0))
 ok : pY wr w.heap.size N qd 7 rs
 len : bO rs = t
 cfg : wr.heap[cb]? = some (.cells c.cells.toArray 48 (0, 0))
theorem yK {w w' : World} {E s X : Nat} {v : Value} (h : pY w B X E s v) (g : Eff (fun _ _ _ => False) w w') : pY w' B X E s v := aU.mono (ck := .sl E s) h g (Nat.le_refl _)
theorem Dn {w : World} {E s X t : Nat} {v : Value} (h : pY w B X E s v) (hl : bO v = t) : pY w B t E s v := by
 obtain ⟨n, xs, hn, ho⟩ := h
 have hnt : n = t := by
   obtain ⟨-, ⟨rfl, e⟩ | ⟨b, cp, cur, rfl, -⟩⟩ := ho
   · simp [bO] at hl
     omega
   · simpa [bO] using hl
 exact ⟨n, xs, by omega, ho⟩
variable {c : kT} {cb pe t : Nat} {m rs : Value} {w wr w' : World}
theorem pU.out (h : pU B N w c cb pe m rs t wr) (hw : WT kd.sig B N w') (g : Eff (fun _ _ _ => False) wr w') : pU B N w c cb pe m rs t w' :=
 ⟨hw, h.aS.trans g, g.blk h.env fun _ _ h => h, yK h.ok g, h.len, g.blk h.cfg fun _ _ h => h⟩
theorem pU.Xp (h : pU B N w c cb pe m rs t wr) (hp : w.heap.size ≤ pe) (g : Eff (fun k U _ => w.heap.size ≤ k ∧ U = qd) wr w') : w'.heap[pe]? = some (.cells (iE c m rs) 66 (0, 0)) := by
 obtain ⟨c', l1, -, l3⟩ := g.cells _ _ _ _ h.env
 rw [l1]
 congr 2
 exact Array.ext_getElem? fun j => l3 j fun hh => absurd hh.2 (by decide)
theorem pU.push {v : Value} (h : pU B N w c cb pe m rs t wr) (hp : w.heap.size ≤ pe) (hB : B ≤ w.heap.size) (hw : WT kd.sig B N w') (hv : pY w' w.heap.size N qd 7 v) (g : Eff (fun k U _ => w.heap.size ≤ k ∧ U = qd) wr w') (hl : bO v = bO rs + 1) : pU B N w c cb pe m v (t + 1) (w'.setCell ⟨pe, 19, none⟩ v) := by
 have en := h.Xp hp g
 have hvB : aU w' B N (.sl qd 7) v := by
   obtain ⟨n, xs, hn, h0, ⟨rfl, e⟩ | ⟨b, cp, cur, rfl, h1, h2⟩⟩ := hv
   · exact ⟨n, xs, hn, h0, .inl ⟨rfl, e⟩⟩
   · exact ⟨n, xs, hn, h0, .inr ⟨b, cp, cur, rfl, by omega, h2⟩⟩
 have e1 : Eff (fun _ _ _ => False) w w' := (h.aS.mono (oW := fun k _ _ => w.heap.size ≤ k) fun _ _ _ _ h => h.elim).trans (g.mono fun _ _ _ _ h => h.1) |>.mono fun k _ _ hk hc => by omega
 have e2 : Eff (fun k _ _ => k = pe) w' (w'.setCell ⟨pe, 19, none⟩ v) := (Eff.refl _ w').dK en (.inl rfl)
 have hcb : w'.heap[cb]? = some (.cells c.cells.toArray 48 (0, 0)) := by
   obtain ⟨c', l1, -, l3⟩ := g.cells _ _ _ _ h.cfg
   rw [l1]
   congr 2
   exact Array.ext_getElem? fun j => l3 j fun hh => absurd hh.2 (by decide)
 have hne : cb ≠ pe := fun e => by
   rw [e, en] at hcb
   cases hcb
 refine ⟨hw.set en kEv (i := 19) (ck := .sl qd 7) rfl hvB, ?_, ?_, aU.mono (ck := .sl qd 7) hv e2 (Nat.le_refl _), by rw [hl, h.len], by rw [bM hne]; exact hcb⟩
 · exact ((e1.mono (oW := fun k _ _ => w.heap.size ≤ k) fun _ _ _ _ h => h.elim).trans (e2.mono fun _ _ _ _ h => by omega)).mono fun k _ _ hk hc => by omega
 · rw [aR en]
   simp [iE]
def Tx (B N : Nat) (c : kT) (w : World) (pe : Nat) (w' : World) : Prop := ∃ m rs, WT kd.sig B N w' ∧ Eff (fun _ _ _ => False) w w' ∧ w'.heap[pe]? = some (.cells (iE c m rs) 66 (0, 0)) ∧ B ≤ pe ∧ w.heap.size ≤ pe ∧ pY w' w.heap.size N qd 7 rs ∧ bO rs = c.T
set_option maxRecDepth 100000 in
set_option maxHeartbeats 4000000 in
theorem Rm (w : World) (c : kT) (hw : WT kd.sig B N w) (hB : B ≤ w.heap.size) (hN : 131072 ≤ N) (wV : N ≤ 68719476736) (hc : qL B N w c) :
   Calls Tryz.prog 53 #[.agg c.cells.toArray] w fun e w' => ∃ pe, e = .returned (.pointer (some ⟨pe, 0, none⟩)) ∧ Tx B N c w pe w' := by
 have HW := Lib.hid (And.intro hw (And.intro hB (And.intro hN (And.intro wV hc))))
 clear hw hB hN wV hc
 obtain ⟨W1, hW1⟩ : ∃ W1, W1 = w.alloc (.cells c.cells.toArray 48) := ⟨_, rfl⟩
 have H1 := Lib.hid (show WT kd.sig B N W1 ∧ Eff (fun _ _ _ => False) w W1 ∧ W1.heap[w.heap.size]? = some (.cells c.cells.toArray 48 (0, 0)) from by
   obtain ⟨hw, hB, hN, wV, hc⟩ := HW.out
   rw [hW1]
   exact ⟨hw.alloc kCf (aT.one hc.all), Eff.bL _ _ _, blk_alloc_new _ _⟩)
 have HQ := Lib.hid hW1
 clear hW1
 go_enter Tryz.func53, Tryz.ntmps53
 unfold kT.cells
 go_upto_region 1 with fail
 change Code.wp _ _ _ _ (w.alloc (.cells c.cells.toArray 48))
 rw [← HQ.out]
 obtain ⟨cb, hcb⟩ : ∃ cb, cb = w.heap.size := ⟨_, rfl⟩
 have HCB := Lib.hid hcb
 rw [← hcb] at H1
 rw [← hcb]
 clear hcb HQ
 go_cut [3] (fun s3 wx => ∃ pe m, s3 = .pointer (some ⟨pe, 0, none⟩) ∧ WT kd.sig B N wx ∧ Eff (fun _ _ _ => False) w wx ∧ wx.heap[pe]? = some (.cells (iE c m (.slice none 0 0)) 66 (0, 0)) ∧ w.heap.size ≤ pe ∧ wx.heap[cb]? = some (.cells c.cells.toArray 48 (0, 0)))
 case first =>
   have rg := dE H1.out.2.2
   refine wp_region_held_drew (S := fun w' => w'.rangeAt cb 0 c.cells) (by kernel_rfl) rg (fun hHeld => ?_)
   obtain ⟨wd, hwd⟩ : ∃ wd, wd = W1.drew := ⟨_, rfl⟩
   have HD := Lib.hid (show WT kd.sig B N wd ∧ Eff (fun _ _ _ => False) w wd ∧ wd.heap[cb]? = some (.cells c.cells.toArray 48 (0, 0)) from by rw [hwd]; exact ⟨H1.out.1.drew, H1.out.2.1.drew, H1.out.2.2⟩)
   have rgd : wd.rangeAt cb 0 c.cells := dE HD.out.2.2
   rw [← hwd]
   clear hwd rg
   refine wpAnyH_take (i := 0) (v := .agg c.cells.toArray) rfl (by kernel_rfl) (by kernel_rfl) (by kernel_rfl) (fun _ _ _ h => h) (yieldsIf_load_mid rfl 48 (.tmp 1) rfl cb 0 rfl c.cells _ (fun _ h => h) rfl rfl (by show (Tryz.prog.info? 48).map (·.size) = some 11; kernel_rfl)) (by assumption) ?_
   try simp only [Act.put, sI]
   refine wpAnyH_take (i := 1) (v := .agg c.cells.toArray) rfl (by kernel_rfl) (by kernel_rfl) (by kernel_rfl) (fun _ _ _ h => h) (yieldsIf_load_mid rfl 48 (.tmp 1) rfl cb 0 rfl c.cells _ (fun _ h => h) rfl rfl (by show (Tryz.prog.info? 48).map (·.size) = some 11; kernel_rfl)) (by assumption) ?_
   try simp only [Act.put, sI]
   refine wpAnyH_ready (rs := [2]) (by kernel_rfl) (by simp) ?_
   refine AllReadyH.cons rfl (fun K hK => ?_) AllReadyH.nil
   go_simp
   refine (aaV (B := B) (N := N) (cs := c.cells) HD.out.1 (Nat.le_trans HW.out.2.1 HD.out.2.1.size) HW.out.2.2.2.1 (HW.out.2.2.2.2.all.mono HD.out.2.1 (Nat.le_refl _))).mono ?_
   rintro e w2 ⟨n, rfl, hw2, hE2⟩
   have HD2 := Lib.hid (show WT kd.sig B N w2 ∧ Eff (fun _ _ _ => False) w w2 ∧ w2.heap[cb]? = some (.cells c.cells.toArray 48 (0, 0)) from ⟨hw2, HD.out.2.1.trans hE2, hE2.blk HD.out.2.2 fun _ _ h => h⟩)
   have rg2 : w2.rangeAt cb 0 c.cells := dE HD2.out.2.2
   clear hw2 hE2
   refine hK.out _ _ rg2 (fun hHeld => ?_)
   clear hK K
   try simp only [Act.put, sI]
   refine wpAnyH_ready (rs := [3]) (by kernel_rfl) (by simp) ?_
   refine AllReadyH.cons rfl (fun K hK => ?_) AllReadyH.nil
   go_simp
   refine (ahc (B := B) (N := N) w2 n HD2.out.1 (Nat.le_trans HW.out.2.1 HD2.out.2.1.size) HW.out.2.2.1).mono ?_
   rintro e w3 ⟨m, rfl, hw3, EA, hm⟩
   have HD3 := Lib.hid (show WT kd.sig B N w3 ∧ Eff (fun _ _ _ => False) w w3 ∧ w3.heap[cb]? = some (.cells c.cells.toArray 48 (0, 0)) ∧ aU w3 B N (.sl 59 1) m from ⟨hw3, HD2.out.2.1.trans EA, EA.blk HD2.out.2.2 fun _ _ h => h, hm⟩)
   have rg3 : w3.rangeAt cb 0 c.cells := dE HD3.out.2.2.1
   clear hw3 EA hm
   refine hK.out _ _ rg3 (fun hHeld => ?_)
   clear hK K
   try simp only [Act.put, sI]
   simp only [kT.cells]
   refine wpAnyH_take (i := 4) (v := ?_) rfl (by kernel_rfl) (by kernel_rfl) (by kernel_rfl) (fun _ _ _ h => h) (Or.inl ⟨by rfl, ?_⟩) (by assumption) ?_
   rotate_left
   · (intro w hSw; (try dsimp only at hSw); go_simp; try with_reducible rfl)
   try simp only [Act.put, sI]
   refine wpAnyH_ready (rs := [5]) (by kernel_rfl) (by simp) ?_
   refine AllReadyH.cons rfl (fun K hK => ?_) AllReadyH.nil
   go_simp
   obtain ⟨w4, hw4⟩ : ∃ w4, w4 = w3.alloc (.cells (iE c m (.slice none 0 0)) 66) := ⟨_, rfl⟩
   obtain ⟨pe, hpe⟩ : ∃ pe, pe = w3.heap.size := ⟨_, rfl⟩
   have HD4 := Lib.hid (show WT kd.sig B N w4 ∧ Eff (fun _ _ _ => False) w w4 ∧ w4.heap[pe]? = some (.cells (iE c m (.slice none 0 0)) 66 (0, 0)) ∧ w.heap.size ≤ pe ∧ w4.heap[cb]? = some (.cells c.cells.toArray 48 (0, 0)) from by
     obtain ⟨h1, h2, h3, h4⟩ := HD3.out
     have e1 : Eff (fun _ _ _ => False) w3 w4 := by rw [hw4]; exact Eff.bL _ _ _
     refine ⟨by rw [hw4]; exact h1.alloc kEv (aT.one (l := (iE c m (.slice none 0 0)).toList) (aiA (HW.out.2.2.2.2.all.mono h2 (Nat.le_refl _)) h4 ⟨0, [], Nat.zero_le _, World.ownsRow_nil _ _ _ _⟩)), h2.trans e1, by rw [hw4, hpe]; exact blk_alloc_new _ _, by rw [hpe]; exact h2.size, e1.blk h3 fun _ _ h => h⟩)
   have rg4 : w4.rangeAt cb 0 c.cells := dE HD4.out.2.2.2.2
   unfold iE at hw4
   try rw [← hw4]
   try rw [← hpe]
   clear hw4 hpe
   refine hK.out _ _ rg4 (fun hHeld => ?_)
   clear hK K
   try simp only [Act.put, sI]
   refine wpAnyH_ready (rs := [6]) (by kernel_rfl) (by simp) ?_
   refine AllReadyH.cons rfl (fun K hK => ?_) AllReadyH.nil
   go_simp
   refine hK.out _ _ rg4 (fun hHeld => ?_)
   clear hK K
   try simp only [Act.put, sI]
   refine wpAnyH_done (by kernel_rfl) ?_ _
   go_wp2_with fail
   go_meet
   exact ⟨pe, m, rfl, HD4.out⟩
 case rest =>
   obtain ⟨pe, m, rfl, hw2, hE2, hb, hpl, hcb⟩ := hcut
   have START := Lib.hid (show ∃ (t : Nat) (rs : Value), (Value.int .i64 0 = .int .i64 t) ∧ t + (c.T + 1) = c.T + 1 ∧ t ≤ c.T ∧ pU B N w c cb pe m rs t wc from ⟨0, .slice none 0 0, rfl, by omega, by omega, ⟨hw2, hE2, hb, ⟨0, [], Nat.zero_le _, World.ownsRow_nil _ _ _ _⟩, rfl, hcb⟩⟩)
   have HP := Lib.hid hpl
   clear hw2 hE2 hb hpl hcb
   go_wp2_with fail
   go_loopg [4] (c.T + 1) (fun g s4 wr => ∃ (t : Nat) (rs : Value), s4 = .int .i64 t ∧ t + g = c.T + 1 ∧ t ≤ c.T ∧ pU B N w c cb pe m rs t wr)
   case atStart => exact START.out
   case round =>
     clear START
     obtain ⟨t, rs, rfl, hg, ht, hS⟩ := hrel
     have c3 := aa hS.cfg 3
     simp [kT.cells] at c3
     have hT2 := HW.out.2.2.2.2.t2
     by_cases hlt : t < c.T
     · have hlt' : (t : Int) < (c.T : Int) := by omega
       have hwl : wrap64 ((t : Int) + 1) = ((t + 1 : Nat) : Int) := by rw [← IntWalk.i64_left, IntWalk.i64_in _ (by omega)]; omega
       have HQ := Lib.hid (And.intro hS (And.intro hg ht))
       clear hS hg ht
       go_wp2_with fail
       obtain ⟨wq, hwq⟩ : ∃ wq, wq = wr.drew := ⟨_, rfl⟩
       have HS := Lib.hid (show pU B N w c cb pe m rs t wq from by rw [hwq]; exact HQ.out.1.out (HQ.out.1.wt.drew) ((Eff.refl _ _).drew))
       have q19 := aa HS.out.env 19
       simp [iE] at q19
       refine wp_region_any (by kernel_rfl) ?_
       change wpAny _ _ _ _ _ _ _ wr.drew
       rw [← hwq]
       clear hwq c3
       refine wpAny_take (i := 0) (v := ?_) rfl (by kernel_rfl) (by kernel_rfl) (by kernel_rfl) (fun _ _ _ h => h) (Or.inl ⟨by rfl, ?_⟩) ?_
       rotate_left
       · (intro w; go_simp; try with_reducible rfl)
       refine wpAny_take (i := 1) (v := ?_) rfl (by kernel_rfl) (by kernel_rfl) (by kernel_rfl) (fun _ _ _ h => h) (Or.inl ⟨by rfl, ?_⟩) ?_
       rotate_left
       · (intro w; go_simp; try with_reducible rfl)
       refine wpAny_take (i := 2) (v := ?_) rfl (by kernel_rfl) (by kernel_rfl) (by kernel_rfl) (fun _ _ _ h => h) (Or.inl ⟨by rfl, ?_⟩) ?_
       rotate_left
       · (intro w; go_simp; try with_reducible rfl)
       refine wpAny_take (i := 3) (v := ?_) rfl (by kernel_rfl) (by kernel_rfl) (by kernel_rfl) (fun _ _ _ h => h) (Or.inl ⟨by rfl, ?_⟩) ?_
       rotate_left
       · (intro w; go_simp; try with_reducible rfl)
       try simp only [Act.put, sI]
       refine wpAny_ready (rs := [4, 5]) (by kernel_rfl) (by simp) ?_
       refine AllReady.cons rfl (fun K hK => ?_) (AllReady.cons rfl (fun K hK => ?_) AllReady.nil)
       · go_simp
         refine hK _ _ ?_
         clear hK K
         try simp only [Act.put, sI]
         refine wpAny_ready (rs := [5]) (by kernel_rfl) (by simp) ?_
         refine AllReady.cons rfl (fun K hK => ?_) AllReady.nil
         go_simp
         refine (J2 (B := B) (N := N) HS.out.wt (Nat.le_trans HW.out.2.1 HS.out.aS.size) HW.out.2.2.2.1 (i64_in (by omega)) (i64_in (by omega))).mono ?_
         rintro e w3 ⟨cs, rfl, hcs, hw3, EA⟩
         have HF := Lib.hid (And.intro (HS.out.out hw3 EA) hcs)
         have adQ := aa HF.out.1.env 19
         simp [iE] at adQ
         have hl7 : cs.length = 7 := by rw [← hcs.len]; rfl
         clear hw3 EA hcs
         refine hK _ _ ?_
         clear hK K
         try simp only [Act.put, sI]
         refine wpAny_ready (rs := [6]) (by kernel_rfl) (by simp) ?_
         refine AllReady.cons rfl (fun K hK => ?_) AllReady.nil
         rw [if_pos (by rfl)]
         refine x8 (cs := cs) rfl rfl hl7 ?_
         obtain ⟨wz, hwz⟩ : ∃ wz, wz = w3.alloc (.cells cs.toArray 137) := ⟨_, rfl⟩
         obtain ⟨ab, hab⟩ : ∃ ab, ab = w3.heap.size := ⟨_, rfl⟩
         have HZ := Lib.hid (show pU B N w c cb pe m rs t wz ∧ bJ wz B N dJ cs ∧ wz.heap[ab]? = some (.cells cs.toArray qd (0, 0)) from by
           have e1 : Eff (fun _ _ _ => False) w3 wz := by rw [hwz]; exact Eff.bL _ _ _
           exact ⟨HF.out.1.out (by rw [hwz]; exact HF.out.1.wt.alloc kRc (aT.one (l := cs) HF.out.2)) e1, HF.out.2.mono e1 (Nat.le_refl _), by rw [hwz, hab]; exact blk_alloc_new _ _⟩)
         have QI := aa HZ.out.1.env 19
         simp [iE] at QI
         try rw [← hwz]
         try rw [← hab]
         clear hwz hab
         refine hK _ _ ?_
         clear hK K
         try simp only [Act.put, sI]
         refine wpAny_ready (rs := [7]) (by kernel_rfl) (by simp) ?_
         refine AllReady.cons rfl (fun K hK => ?_) AllReady.nil
         rw [if_pos (by rfl)]
         refine uF (B := B) (N := N) (B0 := w.heap.size) (X := t) (cs := cs) (b := ab) (v0 := rs) rfl rfl rfl HZ.out.1.wt HW.out.2.1 HZ.out.1.aS.size (Dn HZ.out.1.ok HZ.out.1.len) HZ.out.2.1 HZ.out.2.2 (by have := HW.out.2.2.1; have := HW.out.2.2.2.2.t2; omega) HW.out.2.2.2.1 ?_
         intro v w5 a1 a2 a3 a4
         obtain ⟨ao, an, ac, rfl⟩ : ∃ ao an ac, v = .slice ao an ac := by
           obtain ⟨_, _, _, _, ⟨rfl, _⟩ | ⟨_, _, _, rfl, _⟩⟩ := a2 <;> exact ⟨_, _, _, rfl⟩
         have PU := Lib.hid (HZ.out.1.push HP.out HW.out.2.1 a1 a2 a3 a4)
         have iP := HZ.out.1.Xp HP.out a3
         have c5 := aa iP 19
         simp [iE] at c5
         have f5 := ay iP 19
         clear a1 a2 a3 a4 iP
         refine hK _ _ ?_
         clear hK K
         try simp only [Act.put, sI]
         refine wpAny_take (i := 8) (v := ?_) rfl (by kernel_rfl) (by kernel_rfl) (by kernel_rfl) (fun _ _ _ h => h) (Or.inl ⟨by rfl, ?_⟩) ?_
         rotate_left
         · (intro w; go_simp; try with_reducible rfl)
         refine wpAny_take (i := 9) (v := ?_) rfl (by kernel_rfl) (by kernel_rfl) (by kernel_rfl) (fun _ _ _ h => h) (Or.inl ⟨by rfl, ?_⟩) ?_
         rotate_left
         · (intro w; go_simp; try with_reducible rfl)
         try simp only [Act.put, sI]
         refine wpAny_ready (rs := [10]) (by kernel_rfl) (by simp) ?_
         refine AllReady.cons rfl (fun K hK => ?_) AllReady.nil
         go_simp
         refine hK _ _ ?_
         clear hK K
         try simp only [Act.put, sI]
         refine wpAny_done (by kernel_rfl) ?_ _
         go_wp2_with fail
         go_roundg (c.T - t)
         case measure =>
           have := HQ.out.2.1
           omega
         case rel =>
           have := HQ.out.2.1
           exact ⟨t + 1, _, by first | rw [hwl] | simp, by omega, by omega, PU.out⟩
       · go_simp
         refine (J2 (B := B) (N := N) HS.out.wt (Nat.le_trans HW.out.2.1 HS.out.aS.size) HW.out.2.2.2.1 (i64_in (by omega)) (i64_in (by omega))).mono ?_
         rintro e w3 ⟨cs, rfl, hcs, hw3, EA⟩
         have HF := Lib.hid (And.intro (HS.out.out hw3 EA) hcs)
         have adQ := aa HF.out.1.env 19
         simp [iE] at adQ
         have hl7 : cs.length = 7 := by rw [← hcs.len]; rfl
         clear hw3 EA hcs
         refine hK _ _ ?_
         clear hK K
         try simp only [Act.put, sI]
         refine wpAny_ready (rs := [4, 6]) (by kernel_rfl) (by simp) ?_
         refine AllReady.cons rfl (fun K hK => ?_) (AllReady.cons rfl (fun K hK => ?_) AllReady.nil)
         · go_simp
           refine hK _ _ ?_
           clear hK K
           try simp only [Act.put, sI]
           refine wpAny_ready (rs := [6]) (by kernel_rfl) (by simp) ?_
           refine AllReady.cons rfl (fun K hK => ?_) AllReady.nil
           rw [if_pos (by rfl)]
           refine x8 (cs := cs) rfl rfl hl7 ?_
           obtain ⟨wz, hwz⟩ : ∃ wz, wz = w3.alloc (.cells cs.toArray 137) := ⟨_, rfl⟩
           obtain ⟨ab, hab⟩ : ∃ ab, ab = w3.heap.size := ⟨_, rfl⟩
           have HZ := Lib.hid (show pU B N w c cb pe m rs t wz ∧ bJ wz B N dJ cs ∧ wz.heap[ab]? = some (.cells cs.toArray qd (0, 0)) from by
             have e1 : Eff (fun _ _ _ => False) w3 wz := by rw [hwz]; exact Eff.bL _ _ _
             exact ⟨HF.out.1.out (by rw [hwz]; exact HF.out.1.wt.alloc kRc (aT.one (l := cs) HF.out.2)) e1, HF.out.2.mono e1 (Nat.le_refl _), by rw [hwz, hab]; exact blk_alloc_new _ _⟩)
           have QI := aa HZ.out.1.env 19
           simp [iE] at QI
           try rw [← hwz]
           try rw [← hab]
           clear hwz hab
           refine hK _ _ ?_
           clear hK K
           try simp only [Act.put, sI]
           refine wpAny_ready (rs := [7]) (by kernel_rfl) (by simp) ?_
           refine AllReady.cons rfl (fun K hK => ?_) AllReady.nil
           rw [if_pos (by rfl)]
           refine uF (B := B) (N := N) (B0 := w.heap.size) (X := t) (cs := cs) (b := ab) (v0 := rs) rfl rfl rfl HZ.out.1.wt HW.out.2.1 HZ.out.1.aS.size (Dn HZ.out.1.ok HZ.out.1.len) HZ.out.2.1 HZ.out.2.2 (by have := HW.out.2.2.1; have := HW.out.2.2.2.2.t2; omega) HW.out.2.2.2.1 ?_
           intro v w5 a1 a2 a3 a4
           obtain ⟨ao, an, ac, rfl⟩ : ∃ ao an ac, v = .slice ao an ac := by
             obtain ⟨_, _, _, _, ⟨rfl, _⟩ | ⟨_, _, _, rfl, _⟩⟩ := a2 <;> exact ⟨_, _, _, rfl⟩
           have PU := Lib.hid (HZ.out.1.push HP.out HW.out.2.1 a1 a2 a3 a4)
           have iP := HZ.out.1.Xp HP.out a3
           have c5 := aa iP 19
           simp [iE] at c5
           have f5 := ay iP 19
           clear a1 a2 a3 a4 iP
           refine hK _ _ ?_
           clear hK K
           try simp only [Act.put, sI]
           refine wpAny_take (i := 8) (v := ?_) rfl (by kernel_rfl) (by kernel_rfl) (by kernel_rfl) (fun _ _ _ h => h) (Or.inl ⟨by rfl, ?_⟩) ?_
           rotate_left
           · (intro w; go_simp; try with_reducible rfl)
           refine wpAny_take (i := 9) (v := ?_) rfl (by kernel_rfl) (by kernel_rfl) (by kernel_rfl) (fun _ _ _ h => h) (Or.inl ⟨by rfl, ?_⟩) ?_
           rotate_left
           · (intro w; go_simp; try with_reducible rfl)
           try simp only [Act.put, sI]
           refine wpAny_ready (rs := [10]) (by kernel_rfl) (by simp) ?_
           refine AllReady.cons rfl (fun K hK => ?_) AllReady.nil
           go_simp
           refine hK _ _ ?_
           clear hK K
           try simp only [Act.put, sI]
           refine wpAny_done (by kernel_rfl) ?_ _
           go_wp2_with fail
           go_roundg (c.T - t)
           case measure =>
             have := HQ.out.2.1
             omega
           case rel =>
             have := HQ.out.2.1
             exact ⟨t + 1, _, by first | rw [hwl] | simp, by omega, by omega, PU.out⟩
         · rw [if_pos (by rfl)]
           refine x8 (cs := cs) rfl rfl hl7 ?_
           obtain ⟨wz, hwz⟩ : ∃ wz, wz = w3.alloc (.cells cs.toArray 137) := ⟨_, rfl⟩
           obtain ⟨ab, hab⟩ : ∃ ab, ab = w3.heap.size := ⟨_, rfl⟩
           have HZ := Lib.hid (show pU B N w c cb pe m rs t wz ∧ bJ wz B N dJ cs ∧ wz.heap[ab]? = some (.cells cs.toArray qd (0, 0)) from by
             have e1 : Eff (fun _ _ _ => False) w3 wz := by rw [hwz]; exact Eff.bL _ _ _
             exact ⟨HF.out.1.out (by rw [hwz]; exact HF.out.1.wt.alloc kRc (aT.one (l := cs) HF.out.2)) e1, HF.out.2.mono e1 (Nat.le_refl _), by rw [hwz, hab]; exact blk_alloc_new _ _⟩)
           have QI := aa HZ.out.1.env 19
           simp [iE] at QI
           try rw [← hwz]
           try rw [← hab]
           clear hwz hab
           refine hK _ _ ?_
           clear hK K
           try simp only [Act.put, sI]
           refine wpAny_ready (rs := [4]) (by kernel_rfl) (by simp) ?_
           refine AllReady.cons rfl (fun K hK => ?_) AllReady.nil
           go_simp
           refine hK _ _ ?_
           clear hK K
           try simp only [Act.put, sI]
           refine wpAny_ready (rs := [7]) (by kernel_rfl) (by simp) ?_
           refine AllReady.cons rfl (fun K hK => ?_) AllReady.nil
           rw [if_pos (by rfl)]
           refine uF (B := B) (N := N) (B0 := w.heap.size) (X := t) (cs := cs) (b := ab) (v0 := rs) rfl rfl rfl HZ.out.1.wt HW.out.2.1 HZ.out.1.aS.size (Dn HZ.out.1.ok HZ.out.1.len) HZ.out.2.1 HZ.out.2.2 (by have := HW.out.2.2.1; have := HW.out.2.2.2.2.t2; omega) HW.out.2.2.2.1 ?_
           intro v w5 a1 a2 a3 a4
           obtain ⟨ao, an, ac, rfl⟩ : ∃ ao an ac, v = .slice ao an ac := by
             obtain ⟨_, _, _, _, ⟨rfl, _⟩ | ⟨_, _, _, rfl, _⟩⟩ := a2 <;> exact ⟨_, _, _, rfl⟩
           have PU := Lib.hid (HZ.out.1.push HP.out HW.out.2.1 a1 a2 a3 a4)
           have iP := HZ.out.1.Xp HP.out a3
           have c5 := aa iP 19
           simp [iE] at c5
           have f5 := ay iP 19
           clear a1 a2 a3 a4 iP
           refine hK _ _ ?_
           clear hK K
           try simp only [Act.put, sI]
           refine wpAny_take (i := 8) (v := ?_) rfl (by kernel_rfl) (by kernel_rfl) (by kernel_rfl) (fun _ _ _ h => h) (Or.inl ⟨by rfl, ?_⟩) ?_
           rotate_left
           · (intro w; go_simp; try with_reducible rfl)
           refine wpAny_take (i := 9) (v := ?_) rfl (by kernel_rfl) (by kernel_rfl) (by kernel_rfl) (fun _ _ _ h => h) (Or.inl ⟨by rfl, ?_⟩) ?_
           rotate_left
           · (intro w; go_simp; try with_reducible rfl)
           try simp only [Act.put, sI]
           refine wpAny_ready (rs := [10]) (by kernel_rfl) (by simp) ?_
           refine AllReady.cons rfl (fun K hK => ?_) AllReady.nil
           go_simp
           refine hK _ _ ?_
           clear hK K
           try simp only [Act.put, sI]
           refine wpAny_done (by kernel_rfl) ?_ _
           go_wp2_with fail
           go_roundg (c.T - t)
           case measure =>
             have := HQ.out.2.1
             omega
           case rel =>
             have := HQ.out.2.1
             exact ⟨t + 1, _, by first | rw [hwl] | simp, by omega, by omega, PU.out⟩
     · have hlt' : ¬ (t : Int) < (c.T : Int) := by omega
       have FIN := Lib.hid (show Tx B N c w pe wr from ⟨m, rs, hS.wt, hS.aS, hS.env, Nat.le_trans HW.out.2.1 HP.out, HP.out, hS.ok, by rw [hS.len]; omega⟩)
       clear hS hg ht
       go_wp2_with fail
       refine bodyPost_ret (results_tmp rfl _ _ _) rfl ?_
       exact ⟨pe, rfl, FIN.out⟩
end Go.Proofs.YtncnepmgmphanaaGreatDoor
