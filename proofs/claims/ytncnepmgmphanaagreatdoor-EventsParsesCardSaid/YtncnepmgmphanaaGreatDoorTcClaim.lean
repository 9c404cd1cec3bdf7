/- A claim of a task that is none. No condition. -/
import Derived.Test.YtncnepmgmphanaaGreatDoorTcKinds
set_option linter.unusedVariables false
set_option linter.unusedSimpArgs false
set_option linter.unusedSectionVars false
namespace Go.Proofs.YtncnepmgmphanaaGreatDoor
open Go.RowKit
variable {sh : Sh} {B : Nat} {G : World → Prop}
theorem aca (w : World) (f i n s : Int) (h : ¬ (0 ≤ i ∧ i < n)) : Calls Tryz.prog 131 #[.int .i64 f, .int .i64 i, .int .i64 n, .int .i64 s] w fun e w' => e = .returned (.int .i64 (-1)) ∧ w' = w := by
 by_cases h0 : i < 0
 · clear h
   go_enter Tryz.func131, Tryz.ntmps131
   go_wp2_with fail
   go_ret
   exact ⟨rfl, rfl⟩
 · have h1 : n ≤ i := by omega
   clear h
   go_enter Tryz.func131, Tryz.ntmps131
   go_wp2_with fail
   go_ret
   exact ⟨rfl, rfl⟩
structure Kp (B N : Nat) (G : World → Prop) (w w' : World) : Prop where
 wt : WT kd.sig B N w'
 aS : Eff (fun _ _ _ => False) w w'
 g : G w'
def BR (W L Cl T D H Ba Ag Pa : Int) (vp vs : Value) : List Value := [.int .i64 W, .int .i64 L, .int .i64 Cl, .int .i64 T, .int .i64 D, .int .i64 H, .int .i64 Ba, .int .i64 Ag, .int .i64 Pa, vp, vs]
theorem Kp.drew {N : Nat} {w w' : World} (hS : Safe kd ae G) (h : Kp B N G w w') : Kp B N G w w'.drew := ⟨h.wt.drew, h.aS.drew, hS _ _ h.g ((Eff.refl _ _).drew)⟩
theorem Kp.cell {N : Nat} {w w' : World} (h : Kp B N G w w') {b i : Nat} {v : Value} (hc : w.cell? ⟨b, i, none⟩ = some v) : w'.cell? ⟨b, i, none⟩ = some v := h.aS.cell hc (fun _ h => h)
theorem Kp.trans {N : Nat} {w w' w2 : World} (h : Kp B N G w w') (g : Kp B N G w' w2) : Kp B N G w w2 := ⟨g.wt, h.aS.trans g.aS, g.g⟩
set_option maxRecDepth 100000 in
set_option maxHeartbeats 2000000 in
theorem afe (hev : aG sh G) (hS : Safe kd ae G) (w : World) (N : Nat) (W L Cl T D H Ba Ag Pa t k : Int) (vp vs : Value) (hN : N ≤ 68719476736) (hB : B ≤ w.heap.size) (hw : WT kd.sig B N w) (hG : G w) (ha : bJ w B N bK (BR W L Cl T D H Ba Ag Pa vp vs)) (ht : ¬ (0 ≤ t ∧ t < T)) :
   Calls Tryz.prog 171 #[.agg (BR W L Cl T D H Ba Ag Pa vp vs).toArray, .int .i64 t, .int .i64 k] w fun e w' => e = .returned (.int .i64 (-1)) ∧ Kp B N G w w' := by
 obtain ⟨w1, hw1⟩ : ∃ w1, w1 = w.alloc (.cells (BR W L Cl T D H Ba Ag Pa vp vs).toArray 48) := ⟨_, rfl⟩
 obtain ⟨bx, hbx⟩ : ∃ bx, bx = w.heap.size := ⟨_, rfl⟩
 have hblk : w1.heap[bx]? = some (.cells (BR W L Cl T D H Ba Ag Pa vp vs).toArray 48 (0, 0)) := by rw [hw1, hbx]; exact blk_alloc_new _ _
 have hE1 : Eff (fun _ _ _ => False) w w1 := by rw [hw1]; exact (Eff.refl _ _).alloc _
 have K1 : Hid (Kp B N G w w1) := Lib.hid ⟨by rw [hw1]; exact hw.alloc (T := 48) (L := bK) (by kernel_rfl) (aT.one ha |>.mono (Eff.refl (fun _ _ _ => False) w) (Nat.le_refl _)), hE1, hS _ _ hG (hE1.mono fun _ _ _ _ h => h.elim)⟩
 have hsz1 := hE1.size
 have DQ : Hid (∀ w', Kp B N G w1 w' → Calls Tryz.prog 82 #[.agg #[.int .i64 W, .int .i64 L, .int .i64 Cl, .int .i64 T, .int .i64 D, .int .i64 H, .int .i64 Ba, .int .i64 Ag, .int .i64 Pa, vp, vs]] w' fun e w2 => ∃ z : Int, e = .returned (.int .i64 z) ∧ Kp B N G w1 w2) := Lib.hid (fun w' hk => by
   have h1 := hk.aS.size
   refine (Jw (sh := sh) hev hS N w' #[.agg (BR W L Cl T D H Ba Ag Pa vp vs).toArray] rfl (by omega) (by simpa [mK] using hN) hk.wt hk.g (fun i t ht => ?_) gJ).mono ?_
   · match i, ht with
     | 0, ht => cases ht; exact ⟨_, rfl, _, rfl, ha.mono (hE1.trans hk.aS) (Nat.le_refl _)⟩
   · rintro e w2 ⟨v, rfl, g1, g2, ⟨z, rfl, -⟩, -⟩
     have g3 : Eff (fun _ _ _ => False) w' w2 := g2.iI fun k c T f j hk hc => by
       rcases hc with hc | ⟨i, o, hm, _⟩ | ⟨o, hm, _⟩
       · have := aK hk; simp only [bQ] at hc; omega
       · cases hm
       · cases hm
     exact ⟨z, rfl, g1, hk.aS.trans g3, hS _ _ hk.g (g3.mono fun _ _ _ _ h => h.elim)⟩)
 have IX := Lib.hid (fun (w' : World) (f s : Int) => aca w' f t T s ht)
 have HW := Lib.hid hw1
 have HB := Lib.hid hbx
 have CL : Hid (∀ w', Kp B N G w1 w' → Kp B N G w1 w' ∧ w'.cell? ⟨bx, 0, none⟩ = some (.int .i64 W) ∧ w'.cell? ⟨bx, 1, none⟩ = some (.int .i64 L) ∧ w'.cell? ⟨bx, 2, none⟩ = some (.int .i64 Cl) ∧ w'.cell? ⟨bx, 3, none⟩ = some (.int .i64 T) ∧ w'.cell? ⟨bx, 4, none⟩ = some (.int .i64 D) ∧ w'.cell? ⟨bx, 5, none⟩ = some (.int .i64 H) ∧ w'.cell? ⟨bx, 6, none⟩ = some (.int .i64 Ba) ∧ w'.cell? ⟨bx, 7, none⟩ = some (.int .i64 Ag) ∧ w'.cell? ⟨bx, 8, none⟩ = some (.int .i64 Pa) ∧ w'.cell? ⟨bx, 9, none⟩ = some vp ∧ w'.cell? ⟨bx, 10, none⟩ = some vs) := Lib.hid (fun w' hk => by
   have c := hk.aS.blk hblk (fun _ _ h => h)
   have cc := fun j => aa c j
   exact ⟨hk, cc 0, cc 1, cc 2, cc 3, cc 4, cc 5, cc 6, cc 7, cc 8, cc 9, cc 10⟩)
 have K0 : Hid (Kp B N G w1 w1) := Lib.hid ⟨K1.out.wt, Eff.refl _ _, K1.out.g⟩
 have KD := Lib.hid (fun w' (h : Kp B N G w1 w') => h.drew hS)
 have KT := Lib.hid (fun w' (h : Kp B N G w1 w') => K1.out.trans h)
 clear hblk hE1 hw hG ha ht hB hN hev hS hsz1 hw1 hbx
 go_enter Tryz.func171, Tryz.ntmps171
 go_wp2_with fail
 rw [← HW.out, ← HB.out]
 go_region_held3 (fun w' => Kp B N G w1 w' ∧ w'.cell? ⟨bx, 0, none⟩ = some (.int .i64 W) ∧ w'.cell? ⟨bx, 1, none⟩ = some (.int .i64 L) ∧ w'.cell? ⟨bx, 2, none⟩ = some (.int .i64 Cl) ∧ w'.cell? ⟨bx, 3, none⟩ = some (.int .i64 T) ∧ w'.cell? ⟨bx, 4, none⟩ = some (.int .i64 D) ∧ w'.cell? ⟨bx, 5, none⟩ = some (.int .i64 H) ∧ w'.cell? ⟨bx, 6, none⟩ = some (.int .i64 Ba) ∧ w'.cell? ⟨bx, 7, none⟩ = some (.int .i64 Ag) ∧ w'.cell? ⟨bx, 8, none⟩ = some (.int .i64 Pa) ∧ w'.cell? ⟨bx, 9, none⟩ = some vp ∧ w'.cell? ⟨bx, 10, none⟩ = some vs)
   (first | exact CL.out _ (KD.out _ K0.out) | exact CL.out _ (by assumption))
   ((first
     | (go_at_call 82
        refine (DQ.out _ (by first | exact KD.out _ K0.out | assumption)).mono ?_
        rintro e w2 ⟨z, rfl, hk2⟩)
     | (go_at_call 131
        refine (IX.out _ _ _).mono ?_
        rintro e w3 ⟨rfl, rfl⟩)))
 all_goals
   go_wp2_with fail
   go_ret
   exact ⟨rfl, KT.out _ (by first | assumption | exact KD.out _ K0.out)⟩
set_option maxRecDepth 100000 in
set_option maxHeartbeats 2000000 in
theorem ZN (hev : aG sh G) (hS : Safe kd ae G) (w : World) (N : Nat) (W L Cl T D H Ba Ag Pa t : Int) (vp vs : Value) (hN : N ≤ 68719476736) (hB : B ≤ w.heap.size) (hw : WT kd.sig B N w) (hG : G w) (ha : bJ w B N bK (BR W L Cl T D H Ba Ag Pa vp vs)) (ht : ¬ (0 ≤ t ∧ t < T)) :
   Calls Tryz.prog 150 #[.agg #[.int .i64 W, .int .i64 L, .int .i64 Cl, .int .i64 T, .int .i64 D, .int .i64 H, .int .i64 Ba, .int .i64 Ag, .int .i64 Pa, vp, vs], .int .i64 t] w fun e w' => e = .returned (.int .i64 (-1)) ∧ Kp B N G w w' := by
 obtain ⟨w1, hw1⟩ : ∃ w1, w1 = w.alloc (.cells #[.int .i64 W, .int .i64 L, .int .i64 Cl, .int .i64 T, .int .i64 D, .int .i64 H, .int .i64 Ba, .int .i64 Ag, .int .i64 Pa, vp, vs] 48) := ⟨_, rfl⟩
 have hE1 : Eff (fun _ _ _ => False) w w1 := by rw [hw1]; exact (Eff.refl _ _).alloc _
 have K1 : Kp B N G w w1 := ⟨by rw [hw1]; exact hw.alloc (T := 48) (L := bK) (by kernel_rfl) (aT.one ha |>.mono (Eff.refl (fun _ _ _ => False) w) (Nat.le_refl _)), hE1, hS _ _ hG (hE1.mono fun _ _ _ _ h => h.elim)⟩
 have KT := Lib.hid (fun w' (h : Kp B N G w1 w') => K1.trans h)
 have TO := Lib.hid (afe hev hS w1 N W L Cl T D H Ba Ag Pa t 0 vp vs hN (Nat.le_trans hB hE1.size) K1.wt K1.g (ha.mono hE1 (Nat.le_refl _)) ht)
 have HW := Lib.hid hw1
 clear hw1 hE1 K1 hw hG ha ht hB hN hev hS
 go_enter Tryz.func150, Tryz.ntmps150
 go_wp2_with fail
 rw [← HW.out]
 refine TO.out.mono ?_; rintro e w2 ⟨rfl, hk⟩
 have HK := Lib.hid hk
 clear hk
 go_wp2_with fail
 go_ret
 exact ⟨rfl, KT.out _ HK.out⟩
theorem agm (w : World) (b : Nat) (ao : Option Addr) (n cap : Nat) (v x : Int) (hc : w.cell? ⟨b, 11, none⟩ = some (.slice ao n cap)) : Calls Tryz.prog 99 #[.pointer (some ⟨b, 0, none⟩), .int .i64 (-1), .int .u64 v, .int .u64 x] w fun e w' => e = .returned (.bool false) ∧ w' = w := by
 have AO := Lib.hid (E8 w b ao n cap (-1) 3 v x hc (by omega))
 clear hc
 go_enter Tryz.func99, Tryz.ntmps99
 go_wp2_with fail
 refine AO.out.mono ?_; rintro e w' ⟨rfl, rfl⟩
 go_wp2_with fail
 go_ret
 exact ⟨rfl, rfl⟩
structure ShT (sh : Sh) (G : World → Prop) (T : Nat) : Prop where
 tasks : ∀ w, G w → w.cell? ⟨sh.pe, 3, none⟩ = some (.int .i64 T)
 recs : bO (sh.el 19) = T
 small : T ≤ 68719476736
set_option maxRecDepth 100000 in
set_option maxHeartbeats 4000000 in
theorem aci (hev : aG sh G) (hS : Safe kd ae G) (w : World) (N : Nat) (c f : Array Value) (fb o : Nat) (T A Bv : Int) (hN : N + 2 ≤ 68719476736) (hB : B ≤ w.heap.size) (hw : WT kd.sig B N w) (hG : G w) (Om : B ≤ sh.pe)
   (hc : w.heap[sh.pe]? = some (.cells c 66 (0, 0))) (h21 : 21 ≤ c.size) (hT : c[3]? = some (.int .i64 T)) (hF : w.heap[fb]? = some (.cells f 118 (0, 0))) (hA : w.cell? ⟨fb, o + 6, none⟩ = some (.int .i64 A)) (TM : w.cell? ⟨fb, o + 7, none⟩ = some (.int .i64 Bv)) (LX : bB .i64 A) (hBi : bB .i64 Bv) (ht : ¬ (0 ≤ Bv ∧ Bv < T)) :
   Calls Tryz.prog 146 #[.pointer (some ⟨sh.pe, 0, none⟩), .pointer (some ⟨fb, o, none⟩)] w fun e w' => ∃ (d : Bool) (k v : Int), e = .returned (.agg #[.bool d, .int .i64 k, .int .i64 v]) ∧ bB .i64 k ∧ bB .i64 v ∧ WT kd.sig B (N + 2) w' ∧ Eff (fun k T j => EI.ty T (j % kd.sz T) ∈ bz ∧ B ≤ k) w w' := by
 obtain ⟨w1, hw1⟩ : ∃ w1, w1 = w.alloc (.cells #[.bool false, .int .i64 0, .int .i64 0] 146) := ⟨_, rfl⟩
 have hE1 : Eff (fun _ _ _ => False) w w1 := by rw [hw1]; exact (Eff.refl _ _).alloc _
 have hz : eZ af [.bool false, .int .i64 0, .int .i64 0] = true := by decide +kernel
 have K1 : Kp B N G w w1 := ⟨by rw [hw1]; exact hw.alloc (T := 146) (L := af) (by kernel_rfl) (aT.one (fJ hz w) |>.mono (Eff.refl (fun _ _ _ => False) w) (Nat.le_refl _)), hE1, hS _ _ hG (hE1.mono fun _ _ _ _ h => h.elim)⟩
 have hrow := hw.rows (T := 66) (L := fQ) (by kernel_rfl) Om hc
 obtain ⟨W, d0, i0⟩ := fA (j := 0) hrow (by omega) rfl
 obtain ⟨L, d1, i1⟩ := fA (j := 1) hrow (by omega) rfl
 obtain ⟨Cl, d2, i2⟩ := fA (j := 2) hrow (by omega) rfl
 obtain ⟨T', d3, i3⟩ := fA (j := 3) hrow (by omega) rfl
 obtain rfl : T' = T := by rw [hT] at d3; cases d3; rfl
 obtain ⟨D, d4, i4⟩ := fA (j := 4) hrow (by omega) rfl
 obtain ⟨H, d5, i5⟩ := fA (j := 5) hrow (by omega) rfl
 obtain ⟨Ba, d6, i6⟩ := fA (j := 6) hrow (by omega) rfl
 obtain ⟨Ag, d7, i7⟩ := fA (j := 7) hrow (by omega) rfl
 obtain ⟨Pa, d8, i8⟩ := fA (j := 8) hrow (by omega) rfl
 obtain ⟨k9, e9, o9⟩ := hrow.2 9 c[9] (Array.getElem?_eq_getElem (by omega))
 cases e9
 obtain ⟨k10, e10, pI⟩ := hrow.2 10 c[10] (Array.getElem?_eq_getElem (by omega))
 cases e10
 obtain ⟨k11, e11, yB⟩ := hrow.2 11 c[11] (Array.getElem?_eq_getElem (by omega))
 cases e11
 have ak9 : ∃ ao n cap, c[11]? = some (.slice ao n cap) := by
   rw [Array.getElem?_eq_getElem (show 11 < c.size by omega)]
   obtain ⟨n, xs, -, -, ⟨e1, -⟩ | ⟨g, cap, cur, e1, -⟩⟩ := yB
   · exact ⟨none, 0, 0, by rw [e1]⟩
   · exact ⟨_, n, cap, by rw [e1]⟩
 obtain ⟨ao, n11, ajc, d11⟩ := ak9
 obtain ⟨vp, hvp⟩ : ∃ v, v = c[9] := ⟨_, rfl⟩
 obtain ⟨vs, hvs⟩ : ∃ v, v = c[10] := ⟨_, rfl⟩
 have d9 : c[9]? = some vp := by rw [hvp]; exact Array.getElem?_eq_getElem _
 have d10 : c[10]? = some vs := by rw [hvs]; exact Array.getElem?_eq_getElem _
 have ha : bJ w B N bK (BR W L Cl T' D H Ba Ag Pa vp vs) := ⟨⟨_, rfl, i0⟩, ⟨_, rfl, i1⟩, ⟨_, rfl, i2⟩, ⟨_, rfl, i3⟩, ⟨_, rfl, i4⟩, ⟨_, rfl, i5⟩, ⟨_, rfl, i6⟩, ⟨_, rfl, i7⟩, ⟨_, rfl, i8⟩, by rw [hvp]; exact o9, by rw [hvs]; exact pI, trivial⟩
 clear hvp hvs o9 pI yB hrow
 have hsz := hE1.size
 have hblk : w1.heap[w.heap.size]? = some (.cells #[.bool false, .int .i64 0, .int .i64 0] 146 (0, 0)) := by rw [hw1]; exact blk_alloc_new _ _
 have K0 : Kp B N G w1 w1 := ⟨K1.wt, Eff.refl _ _, K1.g⟩
 have SO := Lib.hid (fun w' (hk : Kp B N G w1 w') => (ZN hev hS w' N W L Cl T' D H Ba Ag Pa Bv vp vs (by omega) (by have := hk.aS.size; omega) hk.wt hk.g (ha.mono (hE1.trans hk.aS) (Nat.le_refl _)) ht).mono fun e w2 h => (⟨h.1, hk.trans h.2⟩ : e = .returned (.int .i64 (-1)) ∧ Kp B N G w1 w2))
 have CO := Lib.hid (fun w' (hk : Kp B N G w1 w') => agm w' sh.pe ao n11 ajc 1 2 ((K1.trans hk).cell ((aa hc 11).trans d11)))
 have CL : Hid (∀ w', Kp B N G w1 w' → Kp B N G w1 w' ∧ w'.cell? ⟨sh.pe, 0, none⟩ = some (.int .i64 W) ∧ w'.cell? ⟨sh.pe, 1, none⟩ = some (.int .i64 L) ∧ w'.cell? ⟨sh.pe, 2, none⟩ = some (.int .i64 Cl) ∧ w'.cell? ⟨sh.pe, 3, none⟩ = some (.int .i64 T') ∧ w'.cell? ⟨sh.pe, 4, none⟩ = some (.int .i64 D) ∧ w'.cell? ⟨sh.pe, 5, none⟩ = some (.int .i64 H) ∧ w'.cell? ⟨sh.pe, 6, none⟩ = some (.int .i64 Ba) ∧ w'.cell? ⟨sh.pe, 7, none⟩ = some (.int .i64 Ag) ∧ w'.cell? ⟨sh.pe, 8, none⟩ = some (.int .i64 Pa) ∧ w'.cell? ⟨sh.pe, 9, none⟩ = some vp ∧ w'.cell? ⟨sh.pe, 10, none⟩ = some vs ∧ w'.cell? ⟨fb, o + 6, none⟩ = some (.int .i64 A) ∧ w'.cell? ⟨fb, o + 7, none⟩ = some (.int .i64 Bv)) := Lib.hid (fun w' hk => by
   have h := K1.trans hk
   have cc := fun j v (hj : c[j]? = some v) => h.cell ((aa hc j).trans hj)
   exact ⟨hk, cc 0 _ d0, cc 1 _ d1, cc 2 _ d2, cc 3 _ d3, cc 4 _ d4, cc 5 _ d5, cc 6 _ d6, cc 7 _ d7, cc 8 _ d8, cc 9 _ d9, cc 10 _ d10, h.cell hA, h.cell TM⟩)
 have KD := Lib.hid (fun w' (h : Kp B N G w1 w') => h.drew hS)
 have K0' := Lib.hid K0
 -- what Emit leaves, and end, and the result's cell
 have EM : Hid (∀ w', Kp B N G w1 w' → Calls Tryz.prog 113 #[.pointer (some ⟨sh.pe, 0, none⟩), .int .i64 15, .int .i64 A, .int .i64 Bv, .int .i64 0, .int .i64 0] w' fun e w2 => ∃ v, e = .returned v ∧ WT kd.sig B (N + 2) w2 ∧ G w2 ∧ Eff (fun k T j => EI.ty T (j % kd.sz T) ∈ bz ∧ B ≤ k) w' w2) := Lib.hid (fun w' hk => by
   have hsz2 := hk.aS.size
   have hcw := (K1.trans hk).aS.blk hc (fun _ _ h => h)
   refine (Tf (sh := sh) hev hS N w' #[.pointer (some ⟨sh.pe, 0, none⟩), .int .i64 15, .int .i64 A, .int .i64 Bv, .int .i64 0, .int .i64 0] rfl (by omega) (by simpa [qD] using hN) hk.wt hk.g (fun i t ht => ?_) gJ).mono ?_
   · match i, ht with
     | 0, ht => cases ht; exact ⟨_, rfl, sh.pe, 0, rfl, by decide +kernel, ⟨c, Om, hcw, by rw [show kd.sz 66 = 21 by kernel_rfl]; omega⟩, rfl, rfl⟩
     | 1, ht => cases ht; exact ⟨_, rfl, 15, rfl, i64_in (by omega)⟩
     | 2, ht => cases ht; exact ⟨_, rfl, A, rfl, LX⟩
     | 3, ht => cases ht; exact ⟨_, rfl, Bv, rfl, hBi⟩
     | 4, ht => cases ht; exact ⟨_, rfl, 0, rfl, i64_in (by omega)⟩
     | 5, ht => cases ht; exact ⟨_, rfl, 0, rfl, i64_in (by omega)⟩
   · rintro e w2 ⟨v, rfl, g1, g2, -, -⟩
     have g3 : Eff (fun k T j => EI.ty T (j % kd.sz T) ∈ bz ∧ B ≤ k) w' w2 := g2.iI fun k c T f j hk hc => by
       rcases hc with hc | ⟨i, o, hm, _⟩ | ⟨o, hm, rfl, jm⟩
       · have := aK hk; simp only [bQ] at hc; omega
       · exact absurd hm (by simp [qD, bz])
       · exact ⟨hm, jm⟩
     exact ⟨v, rfl, g1, hS _ _ hk.g (sH (cx := bQ kd sh qD #[.pointer (some ⟨sh.pe, 0, none⟩), .int .i64 15, .int .i64 A, .int .i64 Bv, .int .i64 0, .int .i64 0] w') (E := qD.aS) (by decide +kernel) rfl g2), g3⟩)
 have EN : Hid (∀ w', WT kd.sig B (N + 2) w' → G w' → B ≤ w'.heap.size → Calls Tryz.prog 95 #[.int .i64 4, .int .i64 0] w' fun e w2 => ∃ (d : Bool) (k v : Int), e = .returned (.agg #[.bool d, .int .i64 k, .int .i64 v]) ∧ bB .i64 k ∧ bB .i64 v ∧ WT kd.sig B (N + 2) w2 ∧ Eff (fun _ _ _ => False) w' w2) := Lib.hid (fun w' h1 h2 h3 => by
   refine (abk (sh := sh) hev hS (N + 2) w' #[.int .i64 4, .int .i64 0] rfl h3 (by simpa [Ew] using hN) h1 h2 (fun i t ht => ?_) gJ).mono ?_
   · match i, ht with
     | 0, ht => cases ht; exact ⟨_, rfl, 4, rfl, i64_in (by omega)⟩
     | 1, ht => cases ht; exact ⟨_, rfl, 0, rfl, i64_in (by omega)⟩
   · rintro e w2 ⟨v, rfl, g1, g2, ⟨cs, rfl, hcs⟩, -⟩
     obtain ⟨v0, l0, rfl, ⟨d, rfl⟩, q0⟩ := lK hcs
     obtain ⟨v1, l1, rfl, ⟨k, rfl, hk⟩, q1⟩ := lK q0
     obtain ⟨v2, l2, rfl, ⟨v, rfl, hv⟩, q2⟩ := lK q1
     obtain rfl := Kk q2
     exact ⟨d, k, v, rfl, hk, hv, g1, g2.iI fun k c T f j hk hc => by
       rcases hc with hc | ⟨i, o, hm, _⟩ | ⟨o, hm, _⟩
       · have := aK hk; simp only [bQ] at hc; omega
       · cases hm
       · cases hm⟩)
 have RBK : Hid (∀ w' w2 w3, Kp B N G w1 w' → Eff (fun k T j => EI.ty T (j % kd.sz T) ∈ bz ∧ B ≤ k) w' w2 → Eff (fun _ _ _ => False) w2 w3 → w3.heap[w.heap.size]? = some (.cells #[.bool false, .int .i64 0, .int .i64 0] 146 (0, 0))) := Lib.hid (fun w' w2 w3 hk h1 h2 => by
   have b1 := hk.aS.blk hblk (fun _ _ h => h)
   obtain ⟨c', e1, e2, e3⟩ := h1.cells _ _ _ _ b1
   have : c' = #[.bool false, .int .i64 0, .int .i64 0] := Array.ext_getElem? fun j => e3 j (by simp [bz])
   rw [this] at e1
   exact h2.blk e1 (fun _ _ h => h))
 have FIN : Hid (∀ w' w2 w3 (d : Bool) (k v : Int), Kp B N G w1 w' → Eff (fun k T j => EI.ty T (j % kd.sz T) ∈ bz ∧ B ≤ k) w' w2 → Eff (fun _ _ _ => False) w2 w3 → WT kd.sig B (N + 2) w3 → bB .i64 k → bB .i64 v →
     WT kd.sig B (N + 2) (((w3.setCell ⟨w.heap.size, 0, none⟩ (.bool d)).setCell ⟨w.heap.size, 1, none⟩ (.int .i64 k)).setCell ⟨w.heap.size, 2, none⟩ (.int .i64 v)) ∧ Eff (fun k T j => EI.ty T (j % kd.sz T) ∈ bz ∧ B ≤ k) w (((w3.setCell ⟨w.heap.size, 0, none⟩ (.bool d)).setCell ⟨w.heap.size, 1, none⟩ (.int .i64 k)).setCell ⟨w.heap.size, 2, none⟩ (.int .i64 v))) := Lib.hid (fun w' w2 w3 d k v hk h1 h2 h3 h4 h5 => by
   have hb0 := RBK.out w' w2 w3 hk h1 h2
   have hR : kd.sig 146 = some af := by kernel_rfl
   have hb1 := aR hb0 0 (.bool d)
   have hb2 := aR hb1 1 (.int .i64 k)
   have e0 : Eff (fun k T j => EI.ty T (j % kd.sz T) ∈ bz ∧ B ≤ k) w w3 := ((hE1.trans hk.aS).mono fun _ _ _ _ h => h.elim).trans (h1.trans (h2.mono fun _ _ _ _ h => h.elim))
   exact ⟨((h3.set hb0 hR (i := 0) (ck := .bool) rfl ⟨_, rfl⟩).set hb1 hR (i := 1) (ck := .int .i64) rfl ⟨_, rfl, h4⟩).set hb2 hR (i := 2) (ck := .int .i64) rfl ⟨_, rfl, h5⟩,
     ((e0.dK hb0 (.inr (Nat.le_refl _))).dK hb1 (.inr (Nat.le_refl _))).dK hb2 (.inr (Nat.le_refl _))⟩)
 have FBK : Hid (∀ w' w2, Kp B N G w1 w' → Eff (fun k T j => EI.ty T (j % kd.sz T) ∈ bz ∧ B ≤ k) w' w2 → w2.cell? ⟨fb, o + 6, none⟩ = some (.int .i64 A) ∧ w2.cell? ⟨fb, o + 7, none⟩ = some (.int .i64 Bv)) := Lib.hid (fun w' w2 hk h1 => by
   have b1 := (hE1.trans hk.aS).blk hF (fun _ _ h => h)
   obtain ⟨c', e1, e2, e3⟩ := h1.cells _ _ _ _ b1
   have : c' = f := Array.ext_getElem? fun j => e3 j (by simp [bz])
   rw [this] at e1
   have a6 := aa hF (o + 6)
   have a7 := aa hF (o + 7)
   rw [hA] at a6
   rw [TM] at a7
   exact ⟨(aa e1 _).trans a6.symm, (aa e1 _).trans a7.symm⟩)
 have SZ := Lib.hid (fun w' w2 (hk : Kp B N G w1 w') (h1 : Eff (fun k T j => EI.ty T (j % kd.sz T) ∈ bz ∧ B ≤ k) w' w2) => (show B ≤ w2.heap.size by have := hk.aS.size; have := h1.size; omega))
 have HW := Lib.hid hw1
 clear hw1 hE1 hz K1 hev hS hw hG Om hc h21 hT hA TM LX hBi hF ht d0 i0 d1 i1 d2 i2 d3 i3 d4 i4 d5 i5 d6 i6 d7 i7 d8 i8 d9 d10 d11 ha hsz hblk K0 hB hN
 go_enter Tryz.func146, Tryz.ntmps146
 go_wp2_with fail
 rw [← HW.out]
 go_region_held3 (fun w' => Kp B N G w1 w' ∧ w'.cell? ⟨sh.pe, 0, none⟩ = some (.int .i64 W) ∧ w'.cell? ⟨sh.pe, 1, none⟩ = some (.int .i64 L) ∧ w'.cell? ⟨sh.pe, 2, none⟩ = some (.int .i64 Cl) ∧ w'.cell? ⟨sh.pe, 3, none⟩ = some (.int .i64 T') ∧ w'.cell? ⟨sh.pe, 4, none⟩ = some (.int .i64 D) ∧ w'.cell? ⟨sh.pe, 5, none⟩ = some (.int .i64 H) ∧ w'.cell? ⟨sh.pe, 6, none⟩ = some (.int .i64 Ba) ∧ w'.cell? ⟨sh.pe, 7, none⟩ = some (.int .i64 Ag) ∧ w'.cell? ⟨sh.pe, 8, none⟩ = some (.int .i64 Pa) ∧ w'.cell? ⟨sh.pe, 9, none⟩ = some vp ∧ w'.cell? ⟨sh.pe, 10, none⟩ = some vs ∧ w'.cell? ⟨fb, o + 6, none⟩ = some (.int .i64 A) ∧ w'.cell? ⟨fb, o + 7, none⟩ = some (.int .i64 Bv))
   (first | exact CL.out _ (KD.out _ K0'.out) | exact CL.out _ (by assumption))
   ((first
     | (go_at_call 150
        refine (SO.out _ (by first | exact KD.out _ K0'.out | assumption)).mono ?_
        rintro e w2 ⟨rfl, hk2⟩)
     | (go_at_call 99
        refine (CO.out _ (by first | exact KD.out _ K0'.out | assumption)).mono ?_
        rintro e w3 ⟨rfl, rfl⟩)))
 go_wp2_with fail
 go_region_held3 (fun w' => w'.cell? ⟨fb, o + 6, none⟩ = some (.int .i64 A) ∧ w'.cell? ⟨fb, o + 7, none⟩ = some (.int .i64 Bv))
   (first | exact FBK.out _ _ (KD.out _ hk2) (Eff.refl _ _) | exact FBK.out _ _ (KD.out _ hk2) (by assumption))
   ((first
     | (go_at_call 113
        refine (EM.out _ (KD.out _ hk2)).mono ?_
        rintro e w4 ⟨v4, rfl, hw4, hg4, he4⟩)))
 have HW4 := Lib.hid hw4
 have HG4 := Lib.hid hg4
 have HE4 := Lib.hid he4
 have HK2 := Lib.hid (KD.out _ hk2)
 clear hw4 hg4 he4 hk2
 go_wp2_with fail
 refine (EN.out _ HW4.out HG4.out (SZ.out _ _ HK2.out HE4.out)).mono ?_
 rintro e w5 ⟨d, k, v, rfl, hk, hv, dZ, Ug⟩
 have hb := RBK.out _ _ _ HK2.out HE4.out Ug
 have F := Lib.hid (FIN.out _ _ _ d k v HK2.out HE4.out Ug dZ hk hv)
 have Ym := Lib.hid (And.intro hk hv)
 have c0 := aa hb 0
 have c1 := aa hb 1
 have c2 := aa hb 2
 simp at c0 c1 c2
 have f0 := ay hb 0
 have f1 := ay hb 1
 have f2 := ay hb 2
 clear hb hk hv dZ Ug
 go_wp2_with fail
 refine bodyPost_ret (v := .agg #[.bool d, .int .i64 k, .int .i64 v]) (by simp [results, Tryz.results146, go_sem, c0, c1, c2]) rfl ?_
 exact ⟨d, k, v, rfl, Ym.out.1, Ym.out.2, F.out.1, F.out.2⟩
theorem ady (hev : aG sh G) (hS : Safe kd ae G) {T : Nat} (hT : ShT sh G T) : TC Tryz.prog kd sh B G 146 aD := by
 intro N w args ha hB hl hw hG hp Lm
 obtain ⟨a, b, rfl⟩ := Az ha
 obtain ⟨pb, pr, ea, -, ⟨c, hc1, hc2, hc3⟩, hpb, hpr⟩ := eu hp (i := 0) rfl rfl
 have aeB : pb = sh.pe := hpb
 clear hpb
 subst aeB
 subst hpr
 obtain rfl := ea
 obtain ⟨fb, r, rfl, -, ⟨f, hf1, hf2, hf3⟩, hps, dO⟩ := eu hp (i := 1) rfl rfl
 have uT : kd.sz 66 = 21 := by kernel_rfl
 have dR : kd.sz 118 = 18 := by kernel_rfl
 rw [uT] at hc3
 rw [dR] at hf3
 have hfr := hw.rows (T := 118) (L := ax) (by kernel_rfl) hf1 hf2
 obtain ⟨A, hA, LX⟩ := fA (j := r * 18 + 6) (k := .i64) hfr (by omega) (by rw [show (r * 18 + 6) % ax.length = 6 from by show (r * 18 + 6) % 18 = 6; omega]; rfl)
 obtain ⟨Bv, TM, hBi⟩ := fA (j := r * 18 + 7) (k := .i64) hfr (by omega) (by rw [show (r * 18 + 7) % ax.length = 7 from by show (r * 18 + 7) % 18 = 7; omega]; rfl)
 have h3 := hT.tasks w hG
 by_cases ht : 0 ≤ Bv ∧ Bv < (T : Int)
 · obtain ⟨z, rfl⟩ : ∃ z : Nat, Bv = z := ⟨Bv.toNat, by omega⟩
   refine (aa1 (sh := sh) hev hS N w _ rfl hB hl hw hG hp (fun i U o t hh => ?_)).mono ?_
   · simp only [qR, Hm.at] at hh
     cases hb : (Nat.beq 1 i && Nat.beq 118 U && Nat.beq 7 o) with
     | false => rw [hb] at hh; cases hh
     | true =>
       rw [hb] at hh
       cases hh
       simp only [Bool.and_eq_true] at hb
       obtain rfl := Nat.eq_of_beq_eq_true hb.1.1
       obtain rfl := Nat.eq_of_beq_eq_true hb.1.2
       obtain rfl := Nat.eq_of_beq_eq_true hb.2
       have xN : (bQ kd sh qR #[.pointer (some ⟨sh.pe, 0 * kd.sz 66 + 0, none⟩), .pointer (some ⟨fb, r * kd.sz 118 + 0, none⟩)] w).ps 1 = (fb, r) := hps
       refine ⟨by rw [xN]; exact dO, by rw [dR]; omega, by rw [xN]; exact ⟨f, hf1, hf2, by rw [dR]; exact hf3⟩, .int .i64 z, ?_, z, rfl, by rw [show bO ((bQ kd sh qR #[.pointer (some ⟨sh.pe, 0 * kd.sz 66 + 0, none⟩), .pointer (some ⟨fb, r * kd.sz 118 + 0, none⟩)] w).el 19) = T from hT.recs]; omega, by have := hT.small; omega⟩
       rw [xN, dR]
       exact (aa hf2 _).trans TM
   · rintro e w' h
     exact h
 · have hcT : c[3]? = some (.int .i64 T) := by rw [← aa hc2 3]; exact h3
   refine (aci (sh := sh) hev hS w N c f fb (r * kd.sz 118 + 0) T A Bv (by simpa [aD] using hl) hB hw hG hc1 hc2 (by omega) hcT hf2 (by rw [dR]; exact (aa hf2 _).trans hA) (by rw [dR]; exact (aa hf2 _).trans TM) LX hBi ht).mono ?_
   rintro e w' ⟨d, k, v, rfl, hk, hv, hw', he⟩
   refine ⟨_, rfl, hw', he.mono fun k T j _ hm => .inr (.inr ⟨_, ?_, rfl, hm.2⟩), ⟨_, rfl, ⟨_, rfl⟩, ⟨_, rfl, hk⟩, ⟨_, rfl, hv⟩, trivial⟩, gJ⟩
   simp only [aD, List.mem_append]
   exact .inl (.inr hm.1)
end Go.Proofs.YtncnepmgmphanaaGreatDoor
