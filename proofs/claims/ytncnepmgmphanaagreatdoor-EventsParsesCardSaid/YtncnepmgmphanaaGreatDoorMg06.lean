/- The last task of a stack, and leaving it. No condition. -/
import Derived.Test.YtncnepmgmphanaaGreatDoorTcClaim
import Derived.Test.YtncnepmgmphanaaGreatDoorTcRunK
set_option linter.unusedVariables false
set_option linter.unusedSimpArgs false
set_option linter.unusedSectionVars false
namespace Go.Proofs.YtncnepmgmphanaaGreatDoor
section
open Go.RowKit
variable {sh : Sh} {B : Nat} {G : World → Prop}
set_option maxRecDepth 100000 in
theorem gF (w : World) (fb o lb n cap : Nat) (t : Int) (hn : n ≤ 68719476736) (hl : w.cell? ⟨fb, o + 17, none⟩ = some (.slice (some ⟨lb, 0, none⟩) (n + 1) cap)) (ht : w.cell? ⟨lb, n, none⟩ = some (.int .i64 t)) :
   Calls Tryz.prog 156 #[.pointer (some ⟨fb, o, none⟩)] w fun e w' => e = .returned (.int .i64 t) ∧ ∃ q, w' = w.drewN q := by
 obtain ⟨m, hm⟩ : ∃ m, m = n + 1 := ⟨_, rfl⟩
 rw [← hm] at hl
 have e1 : IntKind.i64.wrap ((m : Int) - 1) = (n : Int) := by rw [IntWalk.i64_in _ (by omega)]; omega
 have h0 : n < m := by omega
 have h1 : (n : Int) < (m : Int) := by omega
 have h2 : (0 : Int) ≤ (n : Int) := by omega
 have L := Lib.hid hl
 have T := Lib.hid ht
 clear hl ht hm
 go_enter Tryz.func156, Tryz.ntmps156
 go_wp2_with fail
 go_region_held3 (fun w' => w'.cell? ⟨fb, o + 17, none⟩ = some (.slice (some ⟨lb, 0, none⟩) m cap) ∧ w'.cell? ⟨lb, n, none⟩ = some (.int .i64 t)) (exact ⟨L.out, T.out⟩) (fail)
 go_wp2_with fail
 go_ret
 exact ⟨rfl, 1, rfl⟩
structure ShL (sh : Sh) (G : World → Prop) (lb n cap t : Nat) : Prop where
 val : sh.vals 0 = .slice (some ⟨lb, 0, none⟩) (n + 1) cap
 cell : ∀ w, G w → w.cell? ⟨lb, n, none⟩ = some (.int .i64 t)
 lt : t < bO (sh.el 19)
 small : t ≤ 68719476736
 len : n ≤ 68719476736
theorem ah0 {lb n cap t : Nat} (hL : ShL sh G lb n cap t) : TC Tryz.prog kd sh B G 156 bU := by
 intro N w args ha hB hl hw hG hp hpre
 obtain ⟨a, rfl⟩ := vK ha
 obtain ⟨fb, r, rfl, -, -, hps, dO⟩ := eu hp (i := 0) rfl rfl
 obtain ⟨-, -, -, v, h4, h5⟩ := hpre 0 118 17 (.val 0) rfl
 rw [hps] at h4
 have h5' : v = sh.vals 0 := h5
 rw [h5', hL.val] at h4
 refine (gF w fb (r * kd.sz 118 + 0) lb n cap t hL.len h4 (hL.cell w hG)).mono ?_
 rintro e w' ⟨rfl, q, rfl⟩
 exact ⟨_, rfl, hw.drewN q, (Eff.refl _ _).drewN q, ⟨t, rfl, hL.lt, hL.small⟩, gJ⟩
def ny (w : World) (fb o : Nat) (S : Value) : World := (w.setCell ⟨fb, o + 17, none⟩ S).setCell ⟨fb, o + 1, none⟩ (.int .i64 1)
structure lY (B N : Nat) (w w' : World) (fb o : Nat) (S : Value) : Prop where
 wt : WT kd.sig B N w'
 aS : Eff (fun k T j => k = fb ∧ (j = o + 1 ∨ j = o + 17)) w w'
 l : w'.cell? ⟨fb, o + 17, none⟩ = some S
 ln : w'.cell? ⟨fb, o + 1, none⟩ = some (.int .i64 1)
theorem lY.trans {N : Nat} {w w' w2 : World} {fb o : Nat} {S : Value} (h : lY B N w w' fb o S) (h1 : WT kd.sig B N w2) (h2 : Eff (fun _ _ _ => False) w' w2) : lY B N w w2 fb o S :=
 ⟨h1, h.aS.trans (h2.mono fun _ _ _ _ h => h.elim), h2.cell h.l fun _ h => h, h2.cell h.ln fun _ h => h⟩
theorem Jv {N : Nat} {w : World} {fb o r : Nat} {S : Value} {f : Array Value} (hw : WT kd.sig B N w) (hF : w.heap[fb]? = some (.cells f 118 (0, 0))) (ho : o = r * 18) (hsz : (r + 1) * 18 ≤ f.size) (hS : aU w B N (.sl 3 1) S) : lY B N w (ny w fb o S) fb o S := by
 subst ho
 have hT : kd.sig 118 = some ax := by kernel_rfl
 have hb1 := aR hF (r * 18 + 17) S
 have hb2 := aR hb1 (r * 18 + 1) (.int .i64 1)
 have m17 : (r * 18 + 17) % ax.length = 17 := by show (r * 18 + 17) % 18 = 17; omega
 have m1 : (r * 18 + 1) % ax.length = 1 := by show (r * 18 + 1) % 18 = 1; omega
 refine ⟨(hw.set hF hT (i := r * 18 + 17) (ck := .sl 3 1) (by rw [m17]; rfl) hS).set hb1 hT (i := r * 18 + 1) (ck := .int .i64) (by rw [m1]; rfl) ⟨1, rfl, i64_in (by omega)⟩, ?_, ?_, ?_⟩
 · exact ((Eff.refl _ w).dK hF (.inl ⟨rfl, .inr rfl⟩)).dK hb1 (.inl ⟨rfl, .inl rfl⟩)
 · unfold ny
   rw [aa hb2, Array.getElem?_setIfInBounds_ne (by omega), Array.getElem?_setIfInBounds_self_of_lt (by omega)]
 · unfold ny
   rw [aa hb2, Array.getElem?_setIfInBounds_self_of_lt (by rw [Array.size_setIfInBounds]; omega)]
set_option maxRecDepth 100000 in
set_option maxHeartbeats 1000000 in
theorem VB (N : Nat) (w : World) (fb r lb n cap : Nat) (ln : Int) (f : Array Value) (hw : WT kd.sig B N w) (hBw : B ≤ w.heap.size) (hn : n ≤ 68719476736) (hcap : n + 1 ≤ cap) (hF : w.heap[fb]? = some (.cells f 118 (0, 0))) (hsz : (r + 1) * 18 ≤ f.size) (hS : aU w B N (.sl 3 1) (.slice (some ⟨lb, 0, none⟩) n cap)) (hl : w.cell? ⟨fb, r * 18 + 17, none⟩ = some (.slice (some ⟨lb, 0, none⟩) (n + 1) cap)) (h1 : w.cell? ⟨fb, r * 18 + 1, none⟩ = some (.int .i64 ln)) (h0 : 0 < n) :
   Calls Tryz.prog 160 #[.pointer (some ⟨fb, r * 18, none⟩)] w fun e w' => e = .returned (.agg #[.bool false, .int .i64 0, .int .i64 0]) ∧ lY B N w w' fb (r * 18) (.slice (some ⟨lb, 0, none⟩) n cap) := by
 have K := Jv hw hF rfl hsz hS
 obtain ⟨o, ho⟩ : ∃ o, o = r * 18 := ⟨_, rfl⟩
 rw [← ho] at K hl h1 ⊢
 obtain ⟨wL, Fe⟩ : ∃ wL, wL = ny w fb o (.slice (some ⟨lb, 0, none⟩) n cap) := ⟨_, rfl⟩
 rw [← Fe] at K
 have F : Hid (lY B N w (wL.alloc (.cells #[.bool false, .int .i64 0, .int .i64 0] 146)).drew fb o (.slice (some ⟨lb, 0, none⟩) n cap)) := Lib.hid (K.trans ((K.wt.alloc (T := 146) (L := af) (by kernel_rfl) (aT.one (l := [.bool false, .int .i64 0, .int .i64 0]) ⟨⟨_, rfl⟩, ⟨0, rfl, i64_in (by omega)⟩, ⟨0, rfl, i64_in (by omega)⟩, trivial⟩)).drew) (((Eff.refl _ _).alloc _).drew))
 have HWL := Lib.hid Fe
 have hws : wL.heap.size = w.heap.size := by rw [Fe]; simp [ny, World.setCell]
 have c0 := aa (blk_alloc_new wL (.cells #[.bool false, .int .i64 0, .int .i64 0] 146)) 0
 have c1 := aa (blk_alloc_new wL (.cells #[.bool false, .int .i64 0, .int .i64 0] 146)) 1
 have c2 := aa (blk_alloc_new wL (.cells #[.bool false, .int .i64 0, .int .i64 0] 146)) 2
 rw [hws] at c0 c1 c2
 simp at c0 c1 c2
 have C := Lib.hid (And.intro c0 (And.intro c1 c2))
 obtain ⟨m, hm⟩ : ∃ m, m = n + 1 := ⟨_, rfl⟩
 rw [← hm] at hl hcap
 have e1 : IntKind.i64.wrap ((m : Int) - 1) = (n : Int) := by rw [IntWalk.i64_in _ (by omega)]; omega
 have h0' : n ≤ m := by omega
 have h2 : n ≤ cap := by omega
 have h3 : (n : Int) ≤ (cap : Int) := by omega
 have h4 : (0 : Int) ≤ (n : Int) := by omega
 have h5 : ¬ (n : Int) = 0 := by omega
 have f17 := ay hF (o + 17)
 have f1 := ay hF (o + 1)
 have hfl := aK hF
 have L := Lib.hid hl
 clear hF hm Fe K hw hS hsz ho c0 c1 c2 hws hBw
 go_enter Tryz.func160, Tryz.ntmps160
 go_wp2_with fail
 go_region_with (fail)
 all_goals
   go_wp2_with fail
   refine bodyPost_ret (v := .agg #[.bool false, .int .i64 0, .int .i64 0]) ?_ rfl ?_
   · have hC := C.out
     rw [HWL.out] at hC
     unfold ny at hC
     simp [results, Tryz.results160, go_sem, hC.1, hC.2.1, hC.2.2]
   · have hFF := F.out
     rw [HWL.out] at hFF
     exact ⟨rfl, hFF⟩
theorem dX {w : World} {b p i j : Nat} {v : Value} (h : b ≠ p) : (w.setCell ⟨p, i, none⟩ v).cell? ⟨b, j, none⟩ = w.cell? ⟨b, j, none⟩ := by
 unfold World.cell?
 rw [show (w.setCell ⟨p, i, none⟩ v).heap[(⟨b, j, none⟩ : Addr).block]? = w.heap[(⟨b, j, none⟩ : Addr).block]? from bM h v]
theorem adu (hev : aG sh G) (hS : Safe kd ae G) (N : Nat) (w : World) (x y : Int) (hN : N ≤ 68719476736) (hB : B ≤ w.heap.size) (hw : WT kd.sig B N w) (hG : G w) (hx : bB .i64 x) (hy : bB .i64 y) :
   Calls Tryz.prog 95 #[.int .i64 x, .int .i64 y] w fun e w' => ∃ k v : Int, e = .returned (.agg #[.bool true, .int .i64 k, .int .i64 v]) ∧ bB .i64 k ∧ bB .i64 v ∧ WT kd.sig B N w' ∧ Eff (fun _ _ _ => False) w w' := by
 refine (fH (sh := sh) hev hS N w #[.int .i64 x, .int .i64 y] rfl hB (by simpa [bS] using hN) hw hG (fun i t ht => ?_) gJ).mono ?_
 · match i, ht with
   | 0, ht => cases ht; exact ⟨_, rfl, x, rfl, hx⟩
   | 1, ht => cases ht; exact ⟨_, rfl, y, rfl, hy⟩
 · rintro e w' ⟨v, rfl, g1, g2, q, hq, g3, -⟩
   simp only [List.mem_singleton] at hq
   subst hq
   obtain ⟨cs, rfl, ha, n, hn, hh⟩ := g3
   have e3 : cs.length = 3 := ha.len.symm
   match cs, e3 with
   | [a, b, c], _ =>
     obtain ⟨⟨d, rfl⟩, ⟨k, rfl, hk⟩, ⟨z, rfl, hz⟩, -⟩ := ha
     simp only [List.mem_singleton] at hn
     subst hn
     simp at hh
     subst hh
     refine ⟨k, z, rfl, hk, hz, g1, g2.iI fun k c T f j hk hc => ?_⟩
     rcases hc with hc | ⟨i, o, hm, _⟩ | ⟨o, hm, _⟩
     · have := aK hk; simp only [bQ] at hc; omega
     · cases hm
     · cases hm
set_option maxRecDepth 100000 in
set_option maxHeartbeats 1000000 in
theorem Xy (hev : aG sh G) (hS : Safe kd ae G) (N : Nat) (w : World) (fb r lb n cap : Nat) (ln : Int) (f : Array Value) (hG : G w) (fM : N ≤ 68719476736) (hw : WT kd.sig B N w) (hBw : B ≤ w.heap.size) (hn : n ≤ 68719476736) (h0 : n = 0) (hcap : n + 1 ≤ cap) (hF : w.heap[fb]? = some (.cells f 118 (0, 0))) (hsz : (r + 1) * 18 ≤ f.size) (hSl : aU w B N (.sl 3 1) (.slice (some ⟨lb, 0, none⟩) n cap)) (hl : w.cell? ⟨fb, r * 18 + 17, none⟩ = some (.slice (some ⟨lb, 0, none⟩) (n + 1) cap)) (h1 : w.cell? ⟨fb, r * 18 + 1, none⟩ = some (.int .i64 ln)) :
   Calls Tryz.prog 160 #[.pointer (some ⟨fb, r * 18, none⟩)] w fun e w' => ∃ k v : Int, e = .returned (.agg #[.bool true, .int .i64 k, .int .i64 v]) ∧ bB .i64 k ∧ bB .i64 v ∧ lY B N w w' fb (r * 18) (.slice (some ⟨lb, 0, none⟩) n cap) := by
 have K := Jv hw hF rfl hsz hSl
 have p17 : (r * 18 + 17) % 18 = 17 := by omega
 have p1 : (r * 18 + 1) % 18 = 1 := by omega
 obtain ⟨o, ho⟩ : ∃ o, o = r * 18 := ⟨_, rfl⟩
 rw [← ho] at K hl h1 p17 p1 ⊢
 obtain ⟨wL, Fe⟩ : ∃ wL, wL = ny w fb o (.slice (some ⟨lb, 0, none⟩) n cap) := ⟨_, rfl⟩
 rw [← Fe] at K
 obtain ⟨w1, hw1⟩ : ∃ w1, w1 = (wL.alloc (.cells #[.bool false, .int .i64 0, .int .i64 0] 146)).drew := ⟨_, rfl⟩
 have hR : kd.sig 146 = some af := by kernel_rfl
 have dR : kd.sz 118 = 18 := by kernel_rfl
 have K1 : lY B N w w1 fb o (.slice (some ⟨lb, 0, none⟩) n cap) := by
   rw [hw1]
   exact K.trans ((K.wt.alloc (T := 146) (L := af) (by kernel_rfl) (aT.one (l := [.bool false, .int .i64 0, .int .i64 0]) ⟨⟨_, rfl⟩, ⟨0, rfl, i64_in (by omega)⟩, ⟨0, rfl, i64_in (by omega)⟩, trivial⟩)).drew) (((Eff.refl _ _).alloc _).drew)
 have hws : wL.heap.size = w.heap.size := by rw [Fe]; simp [ny, World.setCell]
 have hb : w1.heap[w.heap.size]? = some (.cells #[.bool false, .int .i64 0, .int .i64 0] 146 (0, 0)) := by
   rw [hw1, ← hws]; exact blk_alloc_new _ _
 have hsz1 := K1.aS.size
 have hG1 : G w1 := hS _ _ hG (K1.aS.iI fun k c T f' j hk hc => by
   obtain ⟨rfl, hj⟩ := hc
   rw [hF] at hk
   cases hk
   rw [dR]
   rcases hj with rfl | rfl
   · rw [p1]; decide
   · rw [p17]; decide)
 have EN := Lib.hid (adu (B := B) hev hS N w1 0 0 fM (by omega) K1.wt hG1 (i64_in (by omega)) (i64_in (by omega)))
 have RB : Hid (∀ w5, Eff (fun _ _ _ => False) w1 w5 → w5.heap[w.heap.size]? = some (.cells #[.bool false, .int .i64 0, .int .i64 0] 146 (0, 0))) := Lib.hid (fun w5 h => h.blk hb (fun _ _ h => h))
 have FIN : Hid (∀ w5 (k v : Int), WT kd.sig B N w5 → Eff (fun _ _ _ => False) w1 w5 → bB .i64 k → bB .i64 v → lY B N w (((w5.setCell ⟨w.heap.size, 0, none⟩ (.bool true)).setCell ⟨w.heap.size, 1, none⟩ (.int .i64 k)).setCell ⟨w.heap.size, 2, none⟩ (.int .i64 v)) fb o (.slice (some ⟨lb, 0, none⟩) n cap)) := Lib.hid (fun w5 k v h3 h2 h4 h5 => by
   have hb0 := h2.blk hb (fun _ _ h => h)
   have hb1 := aR hb0 0 (.bool true)
   have hb2 := aR hb1 1 (.int .i64 k)
   have hfl := aK hF
   have K5 := K1.trans h3 h2
   have hne : fb ≠ w.heap.size := by omega
   refine ⟨((h3.set hb0 hR (i := 0) (ck := .bool) rfl ⟨_, rfl⟩).set hb1 hR (i := 1) (ck := .int .i64) rfl ⟨_, rfl, h4⟩).set hb2 hR (i := 2) (ck := .int .i64) rfl ⟨_, rfl, h5⟩,
     ((K5.aS.dK hb0 (.inr (Nat.le_refl _))).dK hb1 (.inr (Nat.le_refl _))).dK hb2 (.inr (Nat.le_refl _)), ?_, ?_⟩
   · rw [dX hne, dX hne, dX hne]; exact K5.l
   · rw [dX hne, dX hne, dX hne]; exact K5.ln)
 have HW := Lib.hid (And.intro hw1 Fe)
 obtain ⟨m, hm⟩ : ∃ m, m = n + 1 := ⟨_, rfl⟩
 rw [← hm] at hl hcap
 have e1 : IntKind.i64.wrap ((m : Int) - 1) = (n : Int) := by rw [IntWalk.i64_in _ (by omega)]; omega
 have h0' : n ≤ m := by omega
 have h2 : n ≤ cap := by omega
 have h3 : (n : Int) ≤ (cap : Int) := by omega
 have h4 : (0 : Int) ≤ (n : Int) := by omega
 have h5 : (n : Int) = 0 := by omega
 have f17 := ay hF (o + 17)
 have f1 := ay hF (o + 1)
 have hfl := aK hF
 have L := Lib.hid hl
 have N0 := Lib.hid h0
 clear h0 hF hm Fe hw1 K K1 hw hSl hsz ho hws hBw hG hG1 hev hS hb hsz1 p17 p1
 go_enter Tryz.func160, Tryz.ntmps160
 go_wp2_with fail
 go_region_with (fail)
 all_goals
   go_wp2_with fail
   have HE := EN.out
   rw [HW.out.1, HW.out.2] at HE
   unfold ny at HE
   rw [N0.out] at HE
   refine HE.mono ?_
   clear HE
   rintro e w5 ⟨k, v, rfl, hk, hv, dZ, Ug⟩
   have acG : Eff (fun _ _ _ => False) w1 w5 := by rw [HW.out.1, HW.out.2]; unfold ny; rw [N0.out]; exact Ug
   have hb := RB.out w5 acG
   have F := Lib.hid (FIN.out w5 k v dZ acG hk hv)
   have Ym := Lib.hid (And.intro hk hv)
   have c0 := aa hb 0
   have c1 := aa hb 1
   have c2 := aa hb 2
   simp at c0 c1 c2
   have f0 := ay hb 0
   have f1' := ay hb 1
   have f2 := ay hb 2
   clear hb hk hv dZ Ug acG
   go_wp2_with fail
   refine bodyPost_ret (v := .agg #[.bool true, .int .i64 k, .int .i64 v]) (by simp [results, Tryz.results160, go_sem, c0, c1, c2]) rfl ?_
   exact ⟨k, v, rfl, Ym.out.1, Ym.out.2, F.out⟩
end
section
open Go.RowKit
def eG (w : World) (vp : Value) (p : Int) (v : Value) : Prop :=
 ((p < 0 ∨ (bO vp : Int) ≤ p) ∧ v = .slice none 0 0) ∨ ∃ (q pb cap : Nat), p = q ∧ q < bO vp ∧ vp = .slice (some ⟨pb, 0, none⟩) (bO vp) cap ∧ w.cell? ⟨pb, q, none⟩ = some v
set_option maxRecDepth 100000 in
set_option maxHeartbeats 1000000 in
theorem qI (w : World) (pe rb nr cr t np cp : Nat) (ao : Option Addr) (p : Int) (v : Value) (h19 : w.cell? ⟨pe, 19, none⟩ = some (.slice (some ⟨rb, 0, none⟩) nr cr)) (ht : t < nr) (hp : w.cell? ⟨rb, t * 7, none⟩ = some (.int .i64 p)) (h9 : w.cell? ⟨pe, 9, none⟩ = some (.slice ao np cp)) (hv : eG w (.slice ao np cp) p v) :
   Calls Tryz.prog 157 #[.pointer (some ⟨pe, 0, none⟩), .int .i64 t] w fun e w' => e = .returned v ∧ w' = w := by
 have h1 : (t : Int) < (nr : Int) := by omega
 have h2 : (0 : Int) ≤ (t : Int) := by omega
 rcases hv with ⟨hp0 | hp1, rfl⟩ | ⟨q, pb, cap, rfl, hq, he, hc⟩
 · go_enter Tryz.func157, Tryz.ntmps157
   go_wp2_with fail
   go_ret
   exact ⟨rfl, rfl⟩
 · simp only [bO] at hp1
   have hp2 : 0 ≤ p := by omega
   have hp3 : ¬ p < (np : Int) := by omega
   go_enter Tryz.func157, Tryz.ntmps157
   go_wp2_with fail
   go_ret
   exact ⟨rfl, rfl⟩
 · simp only [bO] at hq he
   cases he
   have h3 : (q : Int) < (np : Int) := by omega
   have h4 : ¬ (q : Int) < 0 := by omega
   have h5 : ¬ (np : Int) ≤ (q : Int) := by omega
   have h6 : (0 : Int) ≤ (q : Int) := by omega
   go_enter Tryz.func157, Tryz.ntmps157
   go_wp2_with fail
   go_ret
   exact ⟨rfl, rfl⟩
end
section
open Go.RowKit
variable {B : Nat}
set_option maxRecDepth 100000 in
theorem j5 (w : World) (pe nr cr : Nat) (ra : Option Addr) (t T : Int) (h3 : w.cell? ⟨pe, 3, none⟩ = some (.int .i64 T)) (h19 : w.cell? ⟨pe, 19, none⟩ = some (.slice ra nr cr)) (b : Bool) (hb : b = true ∧ 0 ≤ t ∧ t < T ∧ t < nr ∨ b = false ∧ (t < 0 ∨ T ≤ t)) :
   Calls Tryz.prog 85 #[.pointer (some ⟨pe, 0, none⟩), .int .i64 t] w fun e w' => e = .returned (.bool b) ∧ w' = w := by
 rcases hb with ⟨rfl, h1, h2, h4⟩ | ⟨rfl, h1 | h1⟩
 · go_enter Tryz.func85, Tryz.ntmps85
   go_wp2_with fail
   go_ret
   exact ⟨rfl, rfl⟩
 · go_enter Tryz.func85, Tryz.ntmps85
   go_wp2_with fail
   go_ret
   exact ⟨rfl, rfl⟩
 · by_cases h0 : 0 ≤ t
   · go_enter Tryz.func85, Tryz.ntmps85
     go_wp2_with fail
     go_ret
     exact ⟨rfl, rfl⟩
   · have h2 : t < 0 := by omega
     go_enter Tryz.func85, Tryz.ntmps85
     go_wp2_with fail
     go_ret
     exact ⟨rfl, rfl⟩
structure xL (w : World) (pe fb o lb n cap rb nr cr np cp : Nat) (ap : Option Addr) (t T : Int) : Prop where
 l10 : ∃ j : Int, w.cell? ⟨fb, o + 10, none⟩ = some (.int .i64 j)
 JH : fb < w.heap.size
 f0 : w.frozen? ⟨fb, o + 1, none⟩ = false
 f10 : w.frozen? ⟨fb, o + 10, none⟩ = false
 l1 : w.cell? ⟨fb, o + 1, none⟩ = some (.int .i64 1)
 Yc : w.cell? ⟨fb, o + 17, none⟩ = some (.slice (some ⟨lb, 0, none⟩) (n + 1) cap)
 lt : w.cell? ⟨lb, n, none⟩ = some (.int .i64 t)
 ln : n ≤ 68719476736
 c3 : w.cell? ⟨pe, 3, none⟩ = some (.int .i64 T)
 c9 : w.cell? ⟨pe, 9, none⟩ = some (.slice ap np cp)
 c19 : w.cell? ⟨pe, 19, none⟩ = some (.slice (some ⟨rb, 0, none⟩) nr cr)
set_option maxRecDepth 100000 in
set_option maxHeartbeats 1000000 in
theorem WR (w : World) (pe fb o lb n cap rb nr cr np cp : Nat) (ap : Option Addr) (t T : Int) (h : xL w pe fb o lb n cap rb nr cr np cp ap t T) (ht : t < 0 ∨ T ≤ t) :
   Calls Tryz.prog 132 #[.pointer (some ⟨pe, 0, none⟩), .pointer (some ⟨fb, o, none⟩)] w fun e w' => e = .returned (.tuple #[]) ∧ ∃ q, w' = (w.drewN q).setCell ⟨fb, o + 1, none⟩ (.int .i64 23) := by
 obtain ⟨⟨j0, hj0⟩, h1, h2, h2', h3, h4, h5, h6, h7, h8, h9⟩ := h
 have TP := Lib.hid (gF w fb o lb n cap t h6 h4 h5)
 have TK := Lib.hid (fun q => j5 (w.drewN q) pe nr cr (some ⟨rb, 0, none⟩) t T h7 h9 false (.inr ⟨rfl, ht⟩))
 clear h4 h5 h6 h7 h8 h9 ht hj0
 go_enter Tryz.func132, Tryz.ntmps132
 go_wp2_with (first
   | (go_at_call 156; refine TP.out.mono ?_; rintro e w' ⟨rfl, q, rfl⟩)
   | (go_at_call 85; refine (TK.out _).mono ?_; rintro e w' ⟨rfl, rfl⟩))
 exact bodyPost_ret (v := .tuple #[]) (by simp [results, Tryz.results132]) rfl ⟨rfl, q, rfl⟩
structure zu (w : World) (rb t kn kc : Nat) (ak : Option Addr) (p pa pc le wt : Int) (st : Bool) : Prop where
 c0 : w.cell? ⟨rb, t * 7, none⟩ = some (.int .i64 p)
 c1 : w.cell? ⟨rb, t * 7 + 1, none⟩ = some (.int .i64 pa)
 c2 : w.cell? ⟨rb, t * 7 + 2, none⟩ = some (.int .i64 pc)
 c3 : w.cell? ⟨rb, t * 7 + 3, none⟩ = some (.int .i64 le)
 c4 : w.cell? ⟨rb, t * 7 + 4, none⟩ = some (.int .i64 wt)
 c5 : w.cell? ⟨rb, t * 7 + 5, none⟩ = some (.slice ak kn kc)
 c6 : w.cell? ⟨rb, t * 7 + 6, none⟩ = some (.bool st)
def kH (p pa pc le wt : Int) (ks : Value) (st : Bool) : Array Value := #[.int .i64 p, .int .i64 pa, .int .i64 pc, .int .i64 le, .int .i64 wt, ks, .bool st]
theorem eG.mono {w w' : World} {vp v : Value} {p : Int} (h : eG w vp p v) (g : Eff (fun _ _ _ => False) w w') : eG w' vp p v := by
 rcases h with hv | ⟨q', pb, cap', e1, e2, e3, e4⟩
 · exact .inl hv
 · exact .inr ⟨q', pb, cap', e1, e2, e3, g.cell e4 (fun _ h => h)⟩
structure ChW (w : World) (pe fb o rb nr cr : Nat) (t : Nat) (kn kc : Nat) (ak : Option Addr) (p pa pc le wt : Int) (st : Bool) (v : Value) : Prop where
 JH : fb < w.heap.size
 rbl : rb < w.heap.size
 pel : pe < w.heap.size
 f0 : w.frozen? ⟨fb, o + 1, none⟩ = false
 f10 : w.frozen? ⟨fb, o + 10, none⟩ = false
 l1 : w.cell? ⟨fb, o + 1, none⟩ = some (.int .i64 1)
 l10 : ∃ j : Int, w.cell? ⟨fb, o + 10, none⟩ = some (.int .i64 j)
 c19 : w.cell? ⟨pe, 19, none⟩ = some (.slice (some ⟨rb, 0, none⟩) nr cr)
 r : zu w rb t kn kc ak p pa pc le wt st
 pg : ∀ c, Calls Tryz.prog 157 #[.pointer (some ⟨pe, 0, none⟩), .int .i64 t] (w.alloc c) fun e w' => e = .returned v ∧ w' = w.alloc c
theorem Kg {w : World} {pe fb o lb n cap rb nr cr np cp : Nat} {ap : Option Addr} {t : Nat} {T : Int} (h : xL w pe fb o lb n cap rb nr cr np cp ap t T) (htn : t < nr) (hrl : rb < w.heap.size) (hpl : pe < w.heap.size) {kn kc : Nat} {ak : Option Addr} {p pa pc le wt : Int} {st : Bool} (hr : zu w rb t kn kc ak p pa pc le wt st) {v : Value} (hv : eG w (.slice ap np cp) p v) (q : Nat) : ChW (w.drewN q) pe fb o rb nr cr t kn kc ak p pa pc le wt st v := by
 obtain ⟨⟨j0, hj0⟩, h1, h2, h2', h3, h4, h5, h6, h7, h8, h9⟩ := h
 have E : Eff (fun _ _ _ => False) w (w.drewN q) := (Eff.refl _ w).drewN q
 refine ⟨h1, hrl, hpl, h2, h2', h3, ⟨j0, hj0⟩, h9, ⟨hr.1, hr.2, hr.3, hr.4, hr.5, hr.6, hr.7⟩, fun c => ?_⟩
 have E2 := E.alloc c
 exact qI ((w.drewN q).alloc c) pe rb nr cr t np cp ap p v (E2.cell h9 fun _ h => h) htn (E2.cell hr.c0 fun _ h => h) (E2.cell h8 fun _ h => h) (hv.mono E2)
set_option maxRecDepth 100000 in
set_option maxHeartbeats 1000000 in
theorem Sc (w : World) (pe fb o lb n cap rb nr cr np cp : Nat) (ap : Option Addr) (t : Nat) (T : Int) (h : xL w pe fb o lb n cap rb nr cr np cp ap t T) (ht : (t : Int) < T) (htn : t < nr) (hrl : rb < w.heap.size) (hpl : pe < w.heap.size)
   (kn kc : Nat) (ak : Option Addr) (p pa pc le wt : Int) (st : Bool) (hr : zu w rb t kn kc ak p pa pc le wt st) (v : Value) (hv : eG w (.slice ap np cp) p v) (hw : wt ≠ -1) :
   Calls Tryz.prog 132 #[.pointer (some ⟨pe, 0, none⟩), .pointer (some ⟨fb, o, none⟩)] w fun e w' => e = .returned (.tuple #[]) ∧ ∃ q, w' = (((w.drewN q).setCell ⟨fb, o + 1, none⟩ (.int .i64 2)).alloc (.cells (kH p pa pc le wt (.slice ak kn kc) st) 137)) := by
 have CW := Lib.hid (fun q => Kg h htn hrl hpl hr hv q)
 obtain ⟨⟨j0, hj0⟩, h1, h2, h2', h3, h4, h5, h6, h7, h8, h9⟩ := h
 have TP := Lib.hid (gF w fb o lb n cap t h6 h4 h5)
 have TK := Lib.hid (fun q => j5 (w.drewN q) pe nr cr (some ⟨rb, 0, none⟩) t T h7 h9 true (.inl ⟨rfl, by omega, ht, by omega⟩))
 have hti : (t : Int) < (nr : Int) := by omega
 have ht0 : (0 : Int) ≤ (t : Int) := by omega
 clear h4 h5 h6 h7 h8 h9 ht hv hr h2 h2' hj0
 go_enter Tryz.func132, Tryz.ntmps132
 go_wp2_with (first
   | (go_at_call 156; refine TP.out.mono ?_; rintro e w' ⟨rfl, q, rfl⟩)
   | (go_at_call 85; refine (TK.out _).mono ?_; rintro e w' ⟨rfl, rfl⟩
      obtain ⟨w1, hw1⟩ : ∃ w1, w1 = w.drewN q := ⟨_, rfl⟩
      have C := CW.out q
      rw [← hw1] at C ⊢
      obtain ⟨g1, g2, g3, g4, g5, g7, ⟨j1, g8⟩, g6, ⟨d0, d1, d2, d3, d4, d5, d6⟩, pg⟩ := C
      have PG := Lib.hid pg
      have HW1 := Lib.hid hw1
      clear hw1 pg h1 h3)
   | (go_at_call 157; refine (PG.out _).mono ?_; rintro e w' ⟨rfl, rfl⟩))
 exact bodyPost_end (v := .tuple #[]) (by simp [results, Tryz.results132]) rfl ⟨rfl, q, by rw [← HW1.out]; rfl⟩
set_option maxRecDepth 100000 in
set_option maxHeartbeats 1000000 in
theorem SB (w : World) (pe fb o lb n cap rb nr cr np cp : Nat) (ap : Option Addr) (t : Nat) (T : Int) (h : xL w pe fb o lb n cap rb nr cr np cp ap t T) (ht : (t : Int) < T) (htn : t < nr) (hrl : rb < w.heap.size) (hpl : pe < w.heap.size)
   (kn kc : Nat) (ak : Option Addr) (p pa pc le wt : Int) (st : Bool) (hr : zu w rb t kn kc ak p pa pc le wt st) (v : Value) (hv : eG w (.slice ap np cp) p v) (hw : wt = -1) (hpc : pc < 0) :
   Calls Tryz.prog 132 #[.pointer (some ⟨pe, 0, none⟩), .pointer (some ⟨fb, o, none⟩)] w fun e w' => e = .returned (.tuple #[]) ∧ ∃ q, w' = (((w.drewN q).setCell ⟨fb, o + 1, none⟩ (.int .i64 17)).alloc (.cells (kH p pa pc le wt (.slice ak kn kc) st) 137)) := by
 have CW := Lib.hid (fun q => Kg h htn hrl hpl hr hv q)
 obtain ⟨⟨j0, hj0⟩, h1, h2, h2', h3, h4, h5, h6, h7, h8, h9⟩ := h
 have TP := Lib.hid (gF w fb o lb n cap t h6 h4 h5)
 have TK := Lib.hid (fun q => j5 (w.drewN q) pe nr cr (some ⟨rb, 0, none⟩) t T h7 h9 true (.inl ⟨rfl, by omega, ht, by omega⟩))
 have hti : (t : Int) < (nr : Int) := by omega
 have ht0 : (0 : Int) ≤ (t : Int) := by omega
 clear h4 h5 h6 h7 h8 h9 ht hv hr h2 h2' hj0
 subst hw
 go_enter Tryz.func132, Tryz.ntmps132
 go_wp2_with (first
   | (go_at_call 156; refine TP.out.mono ?_; rintro e w' ⟨rfl, q, rfl⟩)
   | (go_at_call 85; refine (TK.out _).mono ?_; rintro e w' ⟨rfl, rfl⟩
      obtain ⟨w1, hw1⟩ : ∃ w1, w1 = w.drewN q := ⟨_, rfl⟩
      have C := CW.out q
      rw [← hw1] at C ⊢
      obtain ⟨g1, g2, g3, g4, g5, g7, ⟨j1, g8⟩, g6, ⟨d0, d1, d2, d3, d4, d5, d6⟩, pg⟩ := C
      have PG := Lib.hid pg
      have HW1 := Lib.hid hw1
      clear hw1 pg h1 h3)
   | (go_at_call 157; refine (PG.out _).mono ?_; rintro e w' ⟨rfl, rfl⟩))
 exact bodyPost_end (v := .tuple #[]) (by simp [results, Tryz.results132]) rfl ⟨rfl, q, by rw [← HW1.out]; rfl⟩
set_option maxRecDepth 100000 in
set_option maxHeartbeats 1000000 in
theorem QU (w : World) (pe fb o lb n cap rb nr cr np cp : Nat) (ap : Option Addr) (t : Nat) (T : Int) (h : xL w pe fb o lb n cap rb nr cr np cp ap t T) (ht : (t : Int) < T) (htn : t < nr) (hrl : rb < w.heap.size) (hpl : pe < w.heap.size)
   (kn kc : Nat) (ak : Option Addr) (p pa pc le wt : Int) (st : Bool) (hr : zu w rb t kn kc ak p pa pc le wt st) (v : Value) (hv : eG w (.slice ap np cp) p v) (hw : wt = -1) (av : Option Addr) (m mc : Nat) (hvv : v = .slice av m mc) (hpc : 0 ≤ pc) (hpm : (m : Int) ≤ pc) :
   Calls Tryz.prog 132 #[.pointer (some ⟨pe, 0, none⟩), .pointer (some ⟨fb, o, none⟩)] w fun e w' => e = .returned (.tuple #[]) ∧ ∃ q, w' = (((w.drewN q).setCell ⟨fb, o + 1, none⟩ (.int .i64 17)).alloc (.cells (kH p pa pc le wt (.slice ak kn kc) st) 137)) := by
 have CW := Lib.hid (fun q => Kg h htn hrl hpl hr hv q)
 obtain ⟨⟨j0, hj0⟩, h1, h2, h2', h3, h4, h5, h6, h7, h8, h9⟩ := h
 have TP := Lib.hid (gF w fb o lb n cap t h6 h4 h5)
 have TK := Lib.hid (fun q => j5 (w.drewN q) pe nr cr (some ⟨rb, 0, none⟩) t T h7 h9 true (.inl ⟨rfl, by omega, ht, by omega⟩))
 have hti : (t : Int) < (nr : Int) := by omega
 have ht0 : (0 : Int) ≤ (t : Int) := by omega
 clear h4 h5 h6 h7 h8 h9 ht hv hr h2 h2' hj0
 subst hw
 subst hvv
 have NZ : ¬ pc < 0 := by omega
 have Mo : ¬ pc < (m : Int) := by omega
 go_enter Tryz.func132, Tryz.ntmps132
 go_wp2_with (first
   | (go_at_call 156; refine TP.out.mono ?_; rintro e w' ⟨rfl, q, rfl⟩)
   | (go_at_call 85; refine (TK.out _).mono ?_; rintro e w' ⟨rfl, rfl⟩
      obtain ⟨w1, hw1⟩ : ∃ w1, w1 = w.drewN q := ⟨_, rfl⟩
      have C := CW.out q
      rw [← hw1] at C ⊢
      obtain ⟨g1, g2, g3, g4, g5, g7, ⟨j1, g8⟩, g6, ⟨d0, d1, d2, d3, d4, d5, d6⟩, pg⟩ := C
      have PG := Lib.hid pg
      have HW1 := Lib.hid hw1
      clear hw1 pg h1 h3)
   | (go_at_call 157; refine (PG.out _).mono ?_; rintro e w' ⟨rfl, rfl⟩))
 exact bodyPost_end (v := .tuple #[]) (by simp [results, Tryz.results132]) rfl ⟨rfl, q, by rw [← HW1.out]; rfl⟩
set_option maxRecDepth 100000 in
set_option maxHeartbeats 1000000 in
theorem adb (w : World) (pe fb o lb n cap rb nr cr np cp : Nat) (ap : Option Addr) (t : Nat) (T : Int) (h : xL w pe fb o lb n cap rb nr cr np cp ap t T) (ht : (t : Int) < T) (htn : t < nr) (hrl : rb < w.heap.size) (hpl : pe < w.heap.size)
   (kn kc : Nat) (ak : Option Addr) (p pa pc le wt : Int) (st : Bool) (hr : zu w rb t kn kc ak p pa pc le wt st) (v : Value) (hv : eG w (.slice ap np cp) p v) (hw : wt = -1) (qb m mc z : Nat) (hvv : v = .slice (some ⟨qb, 0, none⟩) m mc) (hz : pc = z) (TY : z < m) (mo : qb < w.heap.size) (op A : Int) (h0 : w.cell? ⟨qb, z * 3, none⟩ = some (.int .i64 op)) (hA : w.cell? ⟨qb, z * 3 + 1, none⟩ = some (.int .i64 A)) (ho : op = 0) :
   Calls Tryz.prog 132 #[.pointer (some ⟨pe, 0, none⟩), .pointer (some ⟨fb, o, none⟩)] w fun e w' => e = .returned (.tuple #[]) ∧ ∃ q, w' = (((w.drewN q).setCell ⟨fb, o + 1, none⟩ (.int .i64 3)).alloc (.cells (kH p pa pc le wt (.slice ak kn kc) st) 137)) := by
 have CW := Lib.hid (fun q => Kg h htn hrl hpl hr hv q)
 obtain ⟨⟨j0, hj0⟩, h1, h2, h2', h3, h4, h5, h6, h7, h8, h9⟩ := h
 have TP := Lib.hid (gF w fb o lb n cap t h6 h4 h5)
 have TK := Lib.hid (fun q => j5 (w.drewN q) pe nr cr (some ⟨rb, 0, none⟩) t T h7 h9 true (.inl ⟨rfl, by omega, ht, by omega⟩))
 have hti : (t : Int) < (nr : Int) := by omega
 have ht0 : (0 : Int) ≤ (t : Int) := by omega
 clear h4 h5 h6 h7 h8 h9 ht hv hr h2 h2' hj0
 subst hw
 subst hvv
 subst hz
 have NZ : ¬ (z : Int) < 0 := by omega
 have Mo : (z : Int) < (m : Int) := by omega
 have Xi : ¬ (m : Int) ≤ (z : Int) := by omega
 have U9 : (0 : Int) ≤ (z : Int) := by omega
 have IC : Hid (∀ q, (w.drewN q).cell? ⟨qb, z * 3, none⟩ = some (.int .i64 op) ∧ (w.drewN q).cell? ⟨qb, z * 3 + 1, none⟩ = some (.int .i64 A) ∧ qb < (w.drewN q).heap.size) := Lib.hid (fun q => ⟨h0, hA, mo⟩)
 clear h0 hA mo
 subst ho
 go_enter Tryz.func132, Tryz.ntmps132
 go_wp2_with (first
   | (go_at_call 156; refine TP.out.mono ?_; rintro e w' ⟨rfl, q, rfl⟩)
   | (go_at_call 85; refine (TK.out _).mono ?_; rintro e w' ⟨rfl, rfl⟩
      obtain ⟨w1, hw1⟩ : ∃ w1, w1 = w.drewN q := ⟨_, rfl⟩
      have C := CW.out q
      rw [← hw1] at C ⊢
      obtain ⟨g1, g2, g3, g4, g5, g7, ⟨j1, g8⟩, g6, ⟨d0, d1, d2, d3, d4, d5, d6⟩, pg⟩ := C
      have PG := Lib.hid pg
      have I := IC.out q
      rw [← hw1] at I
      obtain ⟨i0, i1, g9⟩ := I
      have HW1 := Lib.hid hw1
      clear hw1 pg h1 h3)
   | (go_at_call 157; refine (PG.out _).mono ?_; rintro e w' ⟨rfl, rfl⟩))
 exact bodyPost_end (v := .tuple #[]) (by simp [results, Tryz.results132]) rfl ⟨rfl, q, by rw [← HW1.out]; rfl⟩
set_option maxRecDepth 100000 in
set_option maxHeartbeats 1000000 in
theorem adq (w : World) (pe fb o lb n cap rb nr cr np cp : Nat) (ap : Option Addr) (t : Nat) (T : Int) (h : xL w pe fb o lb n cap rb nr cr np cp ap t T) (ht : (t : Int) < T) (htn : t < nr) (hrl : rb < w.heap.size) (hpl : pe < w.heap.size)
   (kn kc : Nat) (ak : Option Addr) (p pa pc le wt : Int) (st : Bool) (hr : zu w rb t kn kc ak p pa pc le wt st) (v : Value) (hv : eG w (.slice ap np cp) p v) (hw : wt = -1) (qb m mc z : Nat) (hvv : v = .slice (some ⟨qb, 0, none⟩) m mc) (hz : pc = z) (TY : z < m) (mo : qb < w.heap.size) (op A : Int) (h0 : w.cell? ⟨qb, z * 3, none⟩ = some (.int .i64 op)) (hA : w.cell? ⟨qb, z * 3 + 1, none⟩ = some (.int .i64 A)) (ho : op = 1) :
   Calls Tryz.prog 132 #[.pointer (some ⟨pe, 0, none⟩), .pointer (some ⟨fb, o, none⟩)] w fun e w' => e = .returned (.tuple #[]) ∧ ∃ q, w' = (((w.drewN q).setCell ⟨fb, o + 1, none⟩ (.int .i64 5)).alloc (.cells (kH p pa pc le wt (.slice ak kn kc) st) 137)) := by
 have CW := Lib.hid (fun q => Kg h htn hrl hpl hr hv q)
 obtain ⟨⟨j0, hj0⟩, h1, h2, h2', h3, h4, h5, h6, h7, h8, h9⟩ := h
 have TP := Lib.hid (gF w fb o lb n cap t h6 h4 h5)
 have TK := Lib.hid (fun q => j5 (w.drewN q) pe nr cr (some ⟨rb, 0, none⟩) t T h7 h9 true (.inl ⟨rfl, by omega, ht, by omega⟩))
 have hti : (t : Int) < (nr : Int) := by omega
 have ht0 : (0 : Int) ≤ (t : Int) := by omega
 clear h4 h5 h6 h7 h8 h9 ht hv hr h2 h2' hj0
 subst hw
 subst hvv
 subst hz
 have NZ : ¬ (z : Int) < 0 := by omega
 have Mo : (z : Int) < (m : Int) := by omega
 have Xi : ¬ (m : Int) ≤ (z : Int) := by omega
 have U9 : (0 : Int) ≤ (z : Int) := by omega
 have IC : Hid (∀ q, (w.drewN q).cell? ⟨qb, z * 3, none⟩ = some (.int .i64 op) ∧ (w.drewN q).cell? ⟨qb, z * 3 + 1, none⟩ = some (.int .i64 A) ∧ qb < (w.drewN q).heap.size) := Lib.hid (fun q => ⟨h0, hA, mo⟩)
 clear h0 hA mo
 subst ho
 go_enter Tryz.func132, Tryz.ntmps132
 go_wp2_with (first
   | (go_at_call 156; refine TP.out.mono ?_; rintro e w' ⟨rfl, q, rfl⟩)
   | (go_at_call 85; refine (TK.out _).mono ?_; rintro e w' ⟨rfl, rfl⟩
      obtain ⟨w1, hw1⟩ : ∃ w1, w1 = w.drewN q := ⟨_, rfl⟩
      have C := CW.out q
      rw [← hw1] at C ⊢
      obtain ⟨g1, g2, g3, g4, g5, g7, ⟨j1, g8⟩, g6, ⟨d0, d1, d2, d3, d4, d5, d6⟩, pg⟩ := C
      have PG := Lib.hid pg
      have I := IC.out q
      rw [← hw1] at I
      obtain ⟨i0, i1, g9⟩ := I
      have HW1 := Lib.hid hw1
      clear hw1 pg h1 h3)
   | (go_at_call 157; refine (PG.out _).mono ?_; rintro e w' ⟨rfl, rfl⟩))
 exact bodyPost_end (v := .tuple #[]) (by simp [results, Tryz.results132]) rfl ⟨rfl, q, by rw [← HW1.out]; rfl⟩
end
end Go.Proofs.YtncnepmgmphanaaGreatDoor
