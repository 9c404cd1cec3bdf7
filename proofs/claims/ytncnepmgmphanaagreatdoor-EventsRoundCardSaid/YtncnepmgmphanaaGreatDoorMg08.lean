/- The last task of a stack, and leaving it. No condition. -/
import Derived.Test.YtncnepmgmphanaaGreatDoorTcClaim
import Derived.Test.YtncnepmgmphanaaGreatDoorTcRunK
set_option linter.unusedVariables false
set_option linter.unusedSimpArgs false
set_option linter.unusedSectionVars false
namespace Go.Proofs.YtncnepmgmphanaaGreatDoor
open Go.RowKit
variable {sh : Sh} {B : Nat} {G : World → Prop}
set_option maxRecDepth 100000 in
theorem top_any (w : World) (fb o lb n cap : Nat) (t : Int) (hn : n ≤ 68719476736) (hl : w.cell? ⟨fb, o + 17, none⟩ = some (.slice (some ⟨lb, 0, none⟩) (n + 1) cap)) (ht : w.cell? ⟨lb, n, none⟩ = some (.int .i64 t)) :
    Calls Tryz.prog 156 #[.pointer (some ⟨fb, o, none⟩)] w fun e w' => e = .returned (.int .i64 t) ∧ ∃ q, w' = w.drewN q := by
  obtain ⟨m, hm⟩ : ∃ m, m = n + 1 := ⟨_, rfl⟩
  rw [← hm] at hl
  have e1 : IntKind.i64.wrap ((m : Int) - 1) = (n : Int) := by rw [IntWalk.i64_in _ (by omega)]; omega
  have h0 : n < m := by omega
  have h1 : (n : Int) < (m : Int) := by omega
  have h2 : (0 : Int) ≤ (n : Int) := by omega
  have L := Lib.hid hl
  have T := Lib.hid ht
  clear hl ht hm
  go_enter Tryz.func156, Tryz.ntmps156
  go_wp2_with fail
  go_region_held3 (fun w' => w'.cell? ⟨fb, o + 17, none⟩ = some (.slice (some ⟨lb, 0, none⟩) m cap) ∧ w'.cell? ⟨lb, n, none⟩ = some (.int .i64 t)) (exact ⟨L.out, T.out⟩) (fail)
  go_wp2_with fail
  go_ret
  exact ⟨rfl, 1, rfl⟩
structure ShL (sh : Sh) (G : World → Prop) (lb n cap t : Nat) : Prop where
  val : sh.vals 0 = .slice (some ⟨lb, 0, none⟩) (n + 1) cap
  cell : ∀ w, G w → w.cell? ⟨lb, n, none⟩ = some (.int .i64 t)
  lt : t < slLen (sh.el 19)
  small : t ≤ 68719476736
  len : n ≤ 68719476736
theorem tc_top {lb n cap t : Nat} (hL : ShL sh G lb n cap t) : TC Tryz.prog kd sh B G 156 sg_top := by
  intro N w args ha hB hl hw hG hp hpre
  obtain ⟨a, rfl⟩ := args1 ha
  obtain ⟨fb, r, rfl, -, -, hps, hfb⟩ := arg_at hp (i := 0) rfl rfl
  obtain ⟨-, -, -, v, h4, h5⟩ := hpre 0 118 17 (.val 0) rfl
  rw [hps] at h4
  have h5' : v = sh.vals 0 := h5
  rw [h5', hL.val] at h4
  refine (top_any w fb (r * kd.sz 118 + 0) lb n cap t hL.len h4 (hL.cell w hG)).mono ?_
  rintro e w' ⟨rfl, q, rfl⟩
  exact ⟨_, rfl, hw.drewN q, (Eff.refl _ _).drewN q, ⟨t, rfl, hL.lt, hL.small⟩, no_post⟩
def leaveW (w : World) (fb o : Nat) (S : Value) : World := (w.setCell ⟨fb, o + 17, none⟩ S).setCell ⟨fb, o + 1, none⟩ (.int .i64 1)
structure LeaveOK (B N : Nat) (w w' : World) (fb o : Nat) (S : Value) : Prop where
  wt : WT kd.sig B N w'
  eff : Eff (fun k T j => k = fb ∧ (j = o + 1 ∨ j = o + 17)) w w'
  l : w'.cell? ⟨fb, o + 17, none⟩ = some S
  ln : w'.cell? ⟨fb, o + 1, none⟩ = some (.int .i64 1)
theorem LeaveOK.trans {N : Nat} {w w' w2 : World} {fb o : Nat} {S : Value} (h : LeaveOK B N w w' fb o S) (h1 : WT kd.sig B N w2) (h2 : Eff (fun _ _ _ => False) w' w2) : LeaveOK B N w w2 fb o S :=
  ⟨h1, h.eff.trans (h2.mono fun _ _ _ _ h => h.elim), h2.cell h.l fun _ h => h, h2.cell h.ln fun _ h => h⟩
theorem leaveW_ok {N : Nat} {w : World} {fb o r : Nat} {S : Value} {f : Array Value} (hw : WT kd.sig B N w) (hF : w.heap[fb]? = some (.cells f 118 (0, 0))) (ho : o = r * 18) (hsz : (r + 1) * 18 ≤ f.size) (hS : CellOK w B N (.sl 3 1) S) : LeaveOK B N w (leaveW w fb o S) fb o S := by
  subst ho
  have hT : kd.sig 118 = some cs_r08_Frame := by kernel_rfl
  have hb1 := blk_setCell hF (r * 18 + 17) S
  have hb2 := blk_setCell hb1 (r * 18 + 1) (.int .i64 1)
  have m17 : (r * 18 + 17) % cs_r08_Frame.length = 17 := by show (r * 18 + 17) % 18 = 17; omega
  have m1 : (r * 18 + 1) % cs_r08_Frame.length = 1 := by show (r * 18 + 1) % 18 = 1; omega
  refine ⟨(hw.set hF hT (i := r * 18 + 17) (ck := .sl 3 1) (by rw [m17]; rfl) hS).set hb1 hT (i := r * 18 + 1) (ck := .int .i64) (by rw [m1]; rfl) ⟨1, rfl, i64_in (by omega)⟩, ?_, ?_, ?_⟩
  · exact ((Eff.refl _ w).setT hF (.inl ⟨rfl, .inr rfl⟩)).setT hb1 (.inl ⟨rfl, .inl rfl⟩)
  · unfold leaveW
    rw [cell_blk hb2, Array.getElem?_setIfInBounds_ne (by omega), Array.getElem?_setIfInBounds_self_of_lt (by omega)]
  · unfold leaveW
    rw [cell_blk hb2, Array.getElem?_setIfInBounds_self_of_lt (by rw [Array.size_setIfInBounds]; omega)]
set_option maxRecDepth 100000 in
set_option maxHeartbeats 1000000 in
theorem leaveN_any (N : Nat) (w : World) (fb r lb n cap : Nat) (ln : Int) (f : Array Value) (hw : WT kd.sig B N w) (hBw : B ≤ w.heap.size) (hn : n ≤ 68719476736) (hcap : n + 1 ≤ cap) (hF : w.heap[fb]? = some (.cells f 118 (0, 0))) (hsz : (r + 1) * 18 ≤ f.size) (hS : CellOK w B N (.sl 3 1) (.slice (some ⟨lb, 0, none⟩) n cap)) (hl : w.cell? ⟨fb, r * 18 + 17, none⟩ = some (.slice (some ⟨lb, 0, none⟩) (n + 1) cap)) (h1 : w.cell? ⟨fb, r * 18 + 1, none⟩ = some (.int .i64 ln)) (h0 : 0 < n) :
    Calls Tryz.prog 160 #[.pointer (some ⟨fb, r * 18, none⟩)] w fun e w' => e = .returned (.agg #[.bool false, .int .i64 0, .int .i64 0]) ∧ LeaveOK B N w w' fb (r * 18) (.slice (some ⟨lb, 0, none⟩) n cap) := by
  have K := leaveW_ok hw hF rfl hsz hS
  obtain ⟨o, ho⟩ : ∃ o, o = r * 18 := ⟨_, rfl⟩
  rw [← ho] at K hl h1 ⊢
  obtain ⟨wL, hwL⟩ : ∃ wL, wL = leaveW w fb o (.slice (some ⟨lb, 0, none⟩) n cap) := ⟨_, rfl⟩
  rw [← hwL] at K
  have F : Hid (LeaveOK B N w (wL.alloc (.cells #[.bool false, .int .i64 0, .int .i64 0] 146)).drew fb o (.slice (some ⟨lb, 0, none⟩) n cap)) := Lib.hid (K.trans ((K.wt.alloc (T := 146) (L := cs_r08_result) (by kernel_rfl) (RowsOK.one (l := [.bool false, .int .i64 0, .int .i64 0]) ⟨⟨_, rfl⟩, ⟨0, rfl, i64_in (by omega)⟩, ⟨0, rfl, i64_in (by omega)⟩, trivial⟩)).drew) (((Eff.refl _ _).alloc _).drew))
  have HWL := Lib.hid hwL
  have hws : wL.heap.size = w.heap.size := by rw [hwL]; simp [leaveW, World.setCell]
  have c0 := cell_blk (blk_alloc_new wL (.cells #[.bool false, .int .i64 0, .int .i64 0] 146)) 0
  have c1 := cell_blk (blk_alloc_new wL (.cells #[.bool false, .int .i64 0, .int .i64 0] 146)) 1
  have c2 := cell_blk (blk_alloc_new wL (.cells #[.bool false, .int .i64 0, .int .i64 0] 146)) 2
  rw [hws] at c0 c1 c2
  simp at c0 c1 c2
  have C := Lib.hid (And.intro c0 (And.intro c1 c2))
  obtain ⟨m, hm⟩ : ∃ m, m = n + 1 := ⟨_, rfl⟩
  rw [← hm] at hl hcap
  have e1 : IntKind.i64.wrap ((m : Int) - 1) = (n : Int) := by rw [IntWalk.i64_in _ (by omega)]; omega
  have h0' : n ≤ m := by omega
  have h2 : n ≤ cap := by omega
  have h3 : (n : Int) ≤ (cap : Int) := by omega
  have h4 : (0 : Int) ≤ (n : Int) := by omega
  have h5 : ¬ (n : Int) = 0 := by omega
  have f17 := free_blk hF (o + 17)
  have f1 := free_blk hF (o + 1)
  have hfl := lt_of_blk hF
  have L := Lib.hid hl
  clear hF hm hwL K hw hS hsz ho c0 c1 c2 hws hBw
  go_enter Tryz.func160, Tryz.ntmps160
  go_wp2_with fail
  go_region_with (fail)
  all_goals
    go_wp2_with fail
    refine bodyPost_ret (v := .agg #[.bool false, .int .i64 0, .int .i64 0]) ?_ rfl ?_
    · have hC := C.out
      rw [HWL.out] at hC
      unfold leaveW at hC
      simp [results, Tryz.results160, go_sem, hC.1, hC.2.1, hC.2.2]
    · have hFF := F.out
      rw [HWL.out] at hFF
      exact ⟨rfl, hFF⟩
theorem cell_ne {w : World} {b p i j : Nat} {v : Value} (h : b ≠ p) : (w.setCell ⟨p, i, none⟩ v).cell? ⟨b, j, none⟩ = w.cell? ⟨b, j, none⟩ := by
  unfold World.cell?
  rw [show (w.setCell ⟨p, i, none⟩ v).heap[(⟨b, j, none⟩ : Addr).block]? = w.heap[(⟨b, j, none⟩ : Addr).block]? from blk_setCell_ne h v]
theorem endK_any (hev : EvG sh G) (hS : Safe kd prot G) (N : Nat) (w : World) (x y : Int) (hN : N ≤ 68719476736) (hB : B ≤ w.heap.size) (hw : WT kd.sig B N w) (hG : G w) (hx : inK .i64 x) (hy : inK .i64 y) :
    Calls Tryz.prog 95 #[.int .i64 x, .int .i64 y] w fun e w' => ∃ k v : Int, e = .returned (.agg #[.bool true, .int .i64 k, .int .i64 v]) ∧ inK .i64 k ∧ inK .i64 v ∧ WT kd.sig B N w' ∧ Eff (fun _ _ _ => False) w w' := by
  refine (tca_endK (sh := sh) hev hS N w #[.int .i64 x, .int .i64 y] rfl hB (by simpa [sg_endK] using hN) hw hG (fun i t ht => ?_) no_post).mono ?_
  · match i, ht with
    | 0, ht => cases ht; exact ⟨_, rfl, x, rfl, hx⟩
    | 1, ht => cases ht; exact ⟨_, rfl, y, rfl, hy⟩
  · rintro e w' ⟨v, rfl, g1, g2, q, hq, g3, -⟩
    simp only [List.mem_singleton] at hq
    subst hq
    obtain ⟨cs, rfl, ha, n, hn, hh⟩ := g3
    have e3 : cs.length = 3 := ha.len.symm
    match cs, e3 with
    | [a, b, c], _ =>
      obtain ⟨⟨d, rfl⟩, ⟨k, rfl, hk⟩, ⟨z, rfl, hz⟩, -⟩ := ha
      simp only [List.mem_singleton] at hn
      subst hn
      simp at hh
      subst hh
      refine ⟨k, z, rfl, hk, hz, g1, g2.monoT fun k c T f j hk hc => ?_⟩
      rcases hc with hc | ⟨i, o, hm, _⟩ | ⟨o, hm, _⟩
      · have := lt_of_blk hk; simp only [cxOf] at hc; omega
      · cases hm
      · cases hm
set_option maxRecDepth 100000 in
set_option maxHeartbeats 1000000 in
theorem leave0_any (hev : EvG sh G) (hS : Safe kd prot G) (N : Nat) (w : World) (fb r lb n cap : Nat) (ln : Int) (f : Array Value) (hG : G w) (hNN : N ≤ 68719476736) (hw : WT kd.sig B N w) (hBw : B ≤ w.heap.size) (hn : n ≤ 68719476736) (h0 : n = 0) (hcap : n + 1 ≤ cap) (hF : w.heap[fb]? = some (.cells f 118 (0, 0))) (hsz : (r + 1) * 18 ≤ f.size) (hSl : CellOK w B N (.sl 3 1) (.slice (some ⟨lb, 0, none⟩) n cap)) (hl : w.cell? ⟨fb, r * 18 + 17, none⟩ = some (.slice (some ⟨lb, 0, none⟩) (n + 1) cap)) (h1 : w.cell? ⟨fb, r * 18 + 1, none⟩ = some (.int .i64 ln)) :
    Calls Tryz.prog 160 #[.pointer (some ⟨fb, r * 18, none⟩)] w fun e w' => ∃ k v : Int, e = .returned (.agg #[.bool true, .int .i64 k, .int .i64 v]) ∧ inK .i64 k ∧ inK .i64 v ∧ LeaveOK B N w w' fb (r * 18) (.slice (some ⟨lb, 0, none⟩) n cap) := by
  have K := leaveW_ok hw hF rfl hsz hSl
  have p17 : (r * 18 + 17) % 18 = 17 := by omega
  have p1 : (r * 18 + 1) % 18 = 1 := by omega
  obtain ⟨o, ho⟩ : ∃ o, o = r * 18 := ⟨_, rfl⟩
  rw [← ho] at K hl h1 p17 p1 ⊢
  obtain ⟨wL, hwL⟩ : ∃ wL, wL = leaveW w fb o (.slice (some ⟨lb, 0, none⟩) n cap) := ⟨_, rfl⟩
  rw [← hwL] at K
  obtain ⟨w1, hw1⟩ : ∃ w1, w1 = (wL.alloc (.cells #[.bool false, .int .i64 0, .int .i64 0] 146)).drew := ⟨_, rfl⟩
  have hR : kd.sig 146 = some cs_r08_result := by kernel_rfl
  have szF : kd.sz 118 = 18 := by kernel_rfl
  have K1 : LeaveOK B N w w1 fb o (.slice (some ⟨lb, 0, none⟩) n cap) := by
    rw [hw1]
    exact K.trans ((K.wt.alloc (T := 146) (L := cs_r08_result) (by kernel_rfl) (RowsOK.one (l := [.bool false, .int .i64 0, .int .i64 0]) ⟨⟨_, rfl⟩, ⟨0, rfl, i64_in (by omega)⟩, ⟨0, rfl, i64_in (by omega)⟩, trivial⟩)).drew) (((Eff.refl _ _).alloc _).drew)
  have hws : wL.heap.size = w.heap.size := by rw [hwL]; simp [leaveW, World.setCell]
  have hb : w1.heap[w.heap.size]? = some (.cells #[.bool false, .int .i64 0, .int .i64 0] 146 (0, 0)) := by
    rw [hw1, ← hws]; exact blk_alloc_new _ _
  have hsz1 := K1.eff.size
  have hG1 : G w1 := hS _ _ hG (K1.eff.monoT fun k c T f' j hk hc => by
    obtain ⟨rfl, hj⟩ := hc
    rw [hF] at hk
    cases hk
    rw [szF]
    rcases hj with rfl | rfl
    · rw [p1]; decide
    · rw [p17]; decide)
  have EN := Lib.hid (endK_any (B := B) hev hS N w1 0 0 hNN (by omega) K1.wt hG1 (i64_in (by omega)) (i64_in (by omega)))
  have RB : Hid (∀ w5, Eff (fun _ _ _ => False) w1 w5 → w5.heap[w.heap.size]? = some (.cells #[.bool false, .int .i64 0, .int .i64 0] 146 (0, 0))) := Lib.hid (fun w5 h => h.blk hb (fun _ _ h => h))
  have FIN : Hid (∀ w5 (k v : Int), WT kd.sig B N w5 → Eff (fun _ _ _ => False) w1 w5 → inK .i64 k → inK .i64 v → LeaveOK B N w (((w5.setCell ⟨w.heap.size, 0, none⟩ (.bool true)).setCell ⟨w.heap.size, 1, none⟩ (.int .i64 k)).setCell ⟨w.heap.size, 2, none⟩ (.int .i64 v)) fb o (.slice (some ⟨lb, 0, none⟩) n cap)) := Lib.hid (fun w5 k v h3 h2 h4 h5 => by
    have hb0 := h2.blk hb (fun _ _ h => h)
    have hb1 := blk_setCell hb0 0 (.bool true)
    have hb2 := blk_setCell hb1 1 (.int .i64 k)
    have hfl := lt_of_blk hF
    have K5 := K1.trans h3 h2
    have hne : fb ≠ w.heap.size := by omega
    refine ⟨((h3.set hb0 hR (i := 0) (ck := .bool) rfl ⟨_, rfl⟩).set hb1 hR (i := 1) (ck := .int .i64) rfl ⟨_, rfl, h4⟩).set hb2 hR (i := 2) (ck := .int .i64) rfl ⟨_, rfl, h5⟩,
      ((K5.eff.setT hb0 (.inr (Nat.le_refl _))).setT hb1 (.inr (Nat.le_refl _))).setT hb2 (.inr (Nat.le_refl _)), ?_, ?_⟩
    · rw [cell_ne hne, cell_ne hne, cell_ne hne]; exact K5.l
    · rw [cell_ne hne, cell_ne hne, cell_ne hne]; exact K5.ln)
  have HW := Lib.hid (And.intro hw1 hwL)
  obtain ⟨m, hm⟩ : ∃ m, m = n + 1 := ⟨_, rfl⟩
  rw [← hm] at hl hcap
  have e1 : IntKind.i64.wrap ((m : Int) - 1) = (n : Int) := by rw [IntWalk.i64_in _ (by omega)]; omega
  have h0' : n ≤ m := by omega
  have h2 : n ≤ cap := by omega
  have h3 : (n : Int) ≤ (cap : Int) := by omega
  have h4 : (0 : Int) ≤ (n : Int) := by omega
  have h5 : (n : Int) = 0 := by omega
  have f17 := free_blk hF (o + 17)
  have f1 := free_blk hF (o + 1)
  have hfl := lt_of_blk hF
  have L := Lib.hid hl
  have N0 := Lib.hid h0
  clear h0 hF hm hwL hw1 K K1 hw hSl hsz ho hws hBw hG hG1 hev hS hb hsz1 p17 p1
  go_enter Tryz.func160, Tryz.ntmps160
  go_wp2_with fail
  go_region_with (fail)
  all_goals
    go_wp2_with fail
    have HE := EN.out
    rw [HW.out.1, HW.out.2] at HE
    unfold leaveW at HE
    rw [N0.out] at HE
    refine HE.mono ?_
    clear HE
    rintro e w5 ⟨k, v, rfl, hk, hv, hw5, he5⟩
    have he5' : Eff (fun _ _ _ => False) w1 w5 := by rw [HW.out.1, HW.out.2]; unfold leaveW; rw [N0.out]; exact he5
    have hb := RB.out w5 he5'
    have F := Lib.hid (FIN.out w5 k v hw5 he5' hk hv)
    have HKV := Lib.hid (And.intro hk hv)
    have c0 := cell_blk hb 0
    have c1 := cell_blk hb 1
    have c2 := cell_blk hb 2
    simp at c0 c1 c2
    have f0 := free_blk hb 0
    have f1' := free_blk hb 1
    have f2 := free_blk hb 2
    clear hb hk hv hw5 he5 he5'
    go_wp2_with fail
    refine bodyPost_ret (v := .agg #[.bool true, .int .i64 k, .int .i64 v]) (by simp [results, Tryz.results160, go_sem, c0, c1, c2]) rfl ?_
    exact ⟨k, v, rfl, HKV.out.1, HKV.out.2, F.out⟩
end Go.Proofs.YtncnepmgmphanaaGreatDoor

namespace Go.Proofs.YtncnepmgmphanaaGreatDoor
open Go.RowKit
def IsProg (w : World) (vp : Value) (p : Int) (v : Value) : Prop :=
  ((p < 0 ∨ (slLen vp : Int) ≤ p) ∧ v = .slice none 0 0) ∨ ∃ (q pb cap : Nat), p = q ∧ q < slLen vp ∧ vp = .slice (some ⟨pb, 0, none⟩) (slLen vp) cap ∧ w.cell? ⟨pb, q, none⟩ = some v
set_option maxRecDepth 100000 in
set_option maxHeartbeats 1000000 in
theorem program_any (w : World) (pe rb nr cr t np cp : Nat) (ao : Option Addr) (p : Int) (v : Value) (h19 : w.cell? ⟨pe, 19, none⟩ = some (.slice (some ⟨rb, 0, none⟩) nr cr)) (ht : t < nr) (hp : w.cell? ⟨rb, t * 7, none⟩ = some (.int .i64 p)) (h9 : w.cell? ⟨pe, 9, none⟩ = some (.slice ao np cp)) (hv : IsProg w (.slice ao np cp) p v) :
    Calls Tryz.prog 157 #[.pointer (some ⟨pe, 0, none⟩), .int .i64 t] w fun e w' => e = .returned v ∧ w' = w := by
  have h1 : (t : Int) < (nr : Int) := by omega
  have h2 : (0 : Int) ≤ (t : Int) := by omega
  rcases hv with ⟨hp0 | hp1, rfl⟩ | ⟨q, pb, cap, rfl, hq, he, hc⟩
  · go_enter Tryz.func157, Tryz.ntmps157
    go_wp2_with fail
    go_ret
    exact ⟨rfl, rfl⟩
  · simp only [slLen] at hp1
    have hp2 : 0 ≤ p := by omega
    have hp3 : ¬ p < (np : Int) := by omega
    go_enter Tryz.func157, Tryz.ntmps157
    go_wp2_with fail
    go_ret
    exact ⟨rfl, rfl⟩
  · simp only [slLen] at hq he
    cases he
    have h3 : (q : Int) < (np : Int) := by omega
    have h4 : ¬ (q : Int) < 0 := by omega
    have h5 : ¬ (np : Int) ≤ (q : Int) := by omega
    have h6 : (0 : Int) ≤ (q : Int) := by omega
    go_enter Tryz.func157, Tryz.ntmps157
    go_wp2_with fail
    go_ret
    exact ⟨rfl, rfl⟩
end Go.Proofs.YtncnepmgmphanaaGreatDoor
