/- An entry performed by the reference engine (printed by gen_do.py). No condition beside those named. -/
import Derived.Test.YtncnepmgmphanaaGreatDoorMg20
import Derived.Test.YtncnepmgmphanaaGreatDoorMg05
import Derived.Deep.DeepCutAuto
import Derived.Deep.CutBlock
import Derived.Deep.LoopGhost
set_option linter.unusedVariables false
set_option linter.unusedSimpArgs false
set_option linter.unusedSectionVars false
namespace Go.Proofs.YtncnepmgmphanaaGreatDoor
open Go.RowKit
section
variable [Inhabited cK] {dG : World} {sh : Sh} {B N T : Nat} {w w' : World} {rb cr xb lb k kc : Nat} {bN cu : Nat → Nat} {dx : Int} {st l0 l1 l2 l3 : Value}
theorem GI.mO {N' : Nat} (h : GI dG sh B T rb N w xb lb k kc bN cu dx st l0 l1 l2 l3) (hN : N ≤ N') (hw' : WT kd.sig B N' w') (g : Eff (fun _ _ _ => False) w w') : GI dG sh B T rb N' w' xb lb k kc bN cu dx st l0 l1 l2 l3 :=
 h.JM hN hw' (g.mono fun _ _ _ _ h => h.elim) (g.blk h.ed fun _ _ h => h) h.A9
theorem Fw (n : Int) : bB .i64 (wrap64 n) := by
 have e1 : IntKind.i64.min = -9223372036854775808 := by decide
 have e2 : IntKind.i64.max = 9223372036854775807 := by decide
 unfold bB wrap64
 rw [e1, e2]
 omega
theorem akT : kd.sig 88 = some gW := by kernel_rfl
theorem aee : kd.sig 66 = some fQ := by kernel_rfl
theorem EE.int (h : EE sh B N T w) (hw : WT kd.sig B N w) {q : Nat} (hq : q < 21) {kk : IntKind} (hk : fQ[q]? = some (.int kk)) : ∃ n, w.cell? ⟨sh.pe, q, none⟩ = some (.int kk n) ∧ bB kk n := by
 obtain ⟨e, h1, h2, h3⟩ := h.blk
 rw [uT] at h3
 obtain ⟨v, e1, n, rfl, hn⟩ := bZ hw aee h1 h2 (i := q) (j := q) (by omega) (Nat.mod_eq_of_lt hq) hk
 exact ⟨n, e1, hn⟩
theorem F6 (h : GI dG sh B T rb N w xb lb k kc bN cu dx st l0 l1 l2 l3) : xb ≠ sh.pe := fun e => by
 obtain ⟨en, n1, n2, n3⟩ := h.ee.blk
 have := h.ed
 rw [e, n2] at this
 cases this
theorem GI.ah6 {q : Nat} {n : Int} (h : GI dG sh B T rb N w xb lb k kc bN cu dx st l0 l1 l2 l3) (hq : q = 17 ∨ q = 18) (hn : bB .i64 n) : GI dG sh B T rb N (w.setCell ⟨sh.pe, q, none⟩ (.int .i64 n)) xb lb k kc bN cu dx st l0 l1 l2 l3 := by
 obtain ⟨e, n1, n2, n3⟩ := id h.ee.blk
 refine h.JM (Nat.le_refl _) (h.wt.set n2 aee (i := q) (ck := .int .i64) (by rcases hq with rfl | rfl <;> rfl) ⟨n, rfl, hn⟩) ((Eff.refl _ w).dK n2 (.inl (.inr (.inr ⟨rfl, hq⟩)))) ?_ h.A9
 rw [bM (F6 h)]
 exact h.ed
theorem GI.last {m0 m1 m2 m3 : Value} (h : GI dG sh B T rb N w xb lb k kc bN cu dx st l0 l1 l2 l3) (hm : bJ w B N [.int .i64, .int .i64, .int .u64, .int .u64] [m0, m1, m2, m3]) : GI dG sh B T rb N ((((w.setCell ⟨xb, 4, none⟩ m0).setCell ⟨xb, 5, none⟩ m1).setCell ⟨xb, 6, none⟩ m2).setCell ⟨xb, 7, none⟩ m3) xb lb k kc bN cu dx st m0 m1 m2 m3 := by
 obtain ⟨h0, h1, h2, h3, -⟩ := hm
 have b1 := aR h.ed 4 m0
 have b2 := aR b1 5 m1
 have b3 := aR b2 6 m2
 have e1 : Eff (Un sh.pe xb) w (w.setCell ⟨xb, 4, none⟩ m0) := (Eff.refl _ w).dK h.ed (.inl (.inr (.inl ⟨rfl, rfl⟩)))
 have e2 := e1.dK b1 (i := 5) (v := m1) (.inl (.inr (.inl ⟨rfl, rfl⟩)))
 have e3 := e2.dK b2 (i := 6) (v := m2) (.inl (.inr (.inl ⟨rfl, rfl⟩)))
 have e4 := e3.dK b3 (i := 7) (v := m3) (.inl (.inr (.inl ⟨rfl, rfl⟩)))
 have w1 := h.wt.set h.ed kE (i := 4) (ck := .int .i64) rfl h0
 have w2 := w1.set b1 kE (i := 5) (ck := .int .i64) rfl (aU.mono h1 e1 (Nat.le_refl _))
 have w3 := w2.set b2 kE (i := 6) (ck := .int .u64) rfl (aU.mono h2 e2 (Nat.le_refl _))
 have w4 := w3.set b3 kE (i := 7) (ck := .int .u64) rfl (aU.mono h3 e3 (Nat.le_refl _))
 refine h.JM (Nat.le_refl _) w4 e4 ?_ h.A9
 rw [aR b3]
 simp [dQ]
theorem GI.bG {n : Int} (h : GI dG sh B T rb N w xb lb k kc bN cu dx st l0 l1 l2 l3) (hn : bB .i64 n) : GI dG sh B T rb N (w.setCell ⟨xb, 2, none⟩ (.int .i64 n)) xb lb k kc bN cu n st l0 l1 l2 l3 := by
 refine h.JM (Nat.le_refl _) (h.wt.set h.ed kE (i := 2) (ck := .int .i64) rfl ⟨n, rfl, hn⟩) ((Eff.refl _ w).dK h.ed (.inl (.inr (.inl ⟨rfl, rfl⟩)))) ?_ h.A9
 rw [aR h.ed]
 simp [dQ]
def UH (w : World) (pe : Nat) (st : Value) : Prop := ∃ ev, w.cell? ⟨pe, 20, none⟩ = some ev ∧ bO ev ≤ bO st
set_option maxRecDepth 100000 in
set_option maxHeartbeats 4000000 in
theorem af4 {lM v : Int} (h : GI dG sh B T rb N w xb lb k kc bN cu dx st l0 l1 l2 l3) (hrb : sh.el 19 = .slice (some ⟨rb, 0, none⟩) T cr) (h8 : 8 ≤ N) (fM : N + 70 ≤ 68719476736) (ik : bB .i64 lM) (iv : bB .i64 v) :
   Calls Tryz.prog 38 #[.pointer (some ⟨xb, 0, none⟩), .agg #[.int .i64 lM, .int .i64 v]] w fun e w' => e = .returned (.tuple #[]) ∧ ∃ sb il sw st' m0 m1 m2 m3, @GI (bY sb) dG sh B T rb (N + 40) w' xb lb k kc bN il sw st' m0 m1 m2 m3 ∧ UH w' sh.pe st' := by
 obtain ⟨cnt, hcnt, ak5⟩ := h.ee.int h.wt (q := 16) (by omega) rfl
 have e0 := aa h.ed 0
 have e1 := aa h.ed 1
 simp [dQ] at e0 e1
 obtain ⟨en, n1, n2, n3⟩ := id h.ee.blk
 have hxl := aK h.ed
 have hpl := aK n2
 have HG := Lib.hid (And.intro h (And.intro hrb (And.intro h8 (And.intro fM (And.intro ik iv)))))
 have H1 : Hid (GI dG sh B T rb N (w.alloc (.cells #[.int .i64 lM, .int .i64 v] 88)) xb lb k kc bN cu dx st l0 l1 l2 l3 ∧ (w.alloc (.cells #[.int .i64 lM, .int .i64 v] 88)).heap[w.heap.size]? = some (.cells #[.int .i64 lM, .int .i64 v] 88 (0, 0))) := Lib.hid ⟨h.mO (Nat.le_refl _) (h.wt.alloc akT (aT.one (l := [.int .i64 lM, .int .i64 v]) ⟨⟨_, rfl, ik⟩, ⟨_, rfl, iv⟩, trivial⟩)) (Eff.bL _ _ _), blk_alloc_new _ _⟩
 clear h n1 n2 n3 ak5 hrb h8 fM ik iv
 go_enter Tryz.func38, Tryz.ntmps38
 go_upto_block 0 with fail
 obtain ⟨W1, hW1⟩ : ∃ W1, W1 = w.alloc (.cells #[.int .i64 lM, .int .i64 v] 88) := ⟨_, rfl⟩
 obtain ⟨bx, hbx⟩ : ∃ bx, bx = w.heap.size := ⟨_, rfl⟩
 rw [← hW1, ← hbx]
 rw [← hW1, ← hbx] at H1
 clear hW1 hbx e0 e1 hcnt hxl hpl
 go_cut [] (fun wx => ∃ il, GI dG sh B T rb (N + 40) wx xb lb k kc bN il dx st l0 l1 l2 l3)
 case first =>
   have e0 := aa H1.out.1.ed 0
   have e1 := aa H1.out.1.ed 1
   simp [dQ] at e0 e1
   have v1 := aa H1.out.2 1
   simp at v1
   by_cases hk0 : lM = 0
   · have hkb : (lM == 0) = true := by simp [hk0]
     obtain ⟨dn, hdn⟩ : ∃ dn : Nat, wR v k = dn := ⟨(wR v k).toNat, by have := EH v k; omega⟩
     have hdk : dn < k := by have := (EH v k).2; have := H1.out.1.k1; omega
     have DR := Lib.hid (fun (w2 : World) => uu k v w2 (by have := H1.out.1.k2; omega))
     rw [hdn] at DR
     have e2 := H1.out.1.ml dn hdk
     have hd0 : (0 : Int) ≤ (dn : Int) := by omega
     have hd1 : (dn : Int) < (k : Int) := by omega
     have ST := Lib.hid (fun (w2 : World) (E2 : Eff (fun _ _ _ => False) W1 w2) (W2 : WT kd.sig B N w2) => show Calls Tryz.prog 56 #[.pointer (some ⟨bN dn, 0, none⟩), .pointer (some ⟨sh.pe, 0, none⟩)] w2 (fun e w3 => ∃ b il, e = .returned (.bool b) ∧ GI dG sh B T rb (N + 40) w3 xb lb k kc bN il dx st l0 l1 l2 l3) by
       have h2 := H1.out.1.mO (Nat.le_refl _) W2 E2
       exact (aex (h2.mi dn hdk) h2.ee h2.wt h2.bw (h2.bm dn hdk) (h2.fr dn hdk) HG.out.2.2.1 (by have := HG.out.2.2.2.1; omega) HG.out.2.1).mono fun e w3 hr => by
         obtain ⟨b, dP, he, -⟩ := id hr
         obtain ⟨il, hg⟩ := h2.step hdk (by omega) hr
         exact ⟨b, il, he, hg⟩)
     have SW := H1.out.1.wt
     clear hdn hk0
     go_wp2_with fail
     refine wp_region_held_drew (S := fun w' => w'.cell? ⟨xb, 0, none⟩ = some (.pointer (some ⟨sh.pe, 0, none⟩)) ∧ w'.cell? ⟨xb, 1, none⟩ = some (.slice (some ⟨lb, 0, none⟩) k kc) ∧ w'.cell? ⟨lb, dn, none⟩ = some (.pointer (some ⟨bN dn, 0, none⟩))) (by kernel_rfl) ⟨e0, e1, e2⟩ (fun hHeld => ?_)
     obtain ⟨wd, hwd⟩ : ∃ wd, wd = W1.drew := ⟨_, rfl⟩
     have v2 : wd.cell? ⟨bx, 1, none⟩ = some (.int .i64 v) := by rw [hwd]; exact v1
     have dS : wd.cell? ⟨xb, 0, none⟩ = some (.pointer (some ⟨sh.pe, 0, none⟩)) ∧ wd.cell? ⟨xb, 1, none⟩ = some (.slice (some ⟨lb, 0, none⟩) k kc) ∧ wd.cell? ⟨lb, dn, none⟩ = some (.pointer (some ⟨bN dn, 0, none⟩)) := by rw [hwd]; exact ⟨e0, e1, e2⟩
     have SS := Lib.hid (ST.out wd (by rw [hwd]; exact (Eff.refl _ _).drew) (by rw [hwd]; exact SW.drew))
     rw [← hwd]
     clear hwd e0 e1 e2 v1 ST
     refine wpAnyH_take (i := 0) (v := ?_) rfl (by kernel_rfl) (by kernel_rfl) (by kernel_rfl) (fun _ _ _ h => h) (Or.inl ⟨by rfl, ?_⟩) (by assumption) ?_
     rotate_left
     · (intro w hSw; (try dsimp only at hSw); obtain ⟨hS1, hS2, tu⟩ := hSw; go_simp; try with_reducible rfl)
     refine wpAnyH_take (i := 1) (v := ?_) rfl (by kernel_rfl) (by kernel_rfl) (by kernel_rfl) (fun _ _ _ h => h) (Or.inl ⟨by rfl, ?_⟩) (by assumption) ?_
     rotate_left
     · (intro w hSw; (try dsimp only at hSw); obtain ⟨hS1, hS2, tu⟩ := hSw; go_simp; try with_reducible rfl)
     refine wpAnyH_take (i := 2) (v := ?_) rfl (by kernel_rfl) (by kernel_rfl) (by kernel_rfl) (fun _ _ _ h => h) (Or.inl ⟨by rfl, ?_⟩) (by assumption) ?_
     rotate_left
     · (intro w hSw; (try dsimp only at hSw); obtain ⟨hS1, hS2, tu⟩ := hSw; go_simp; try with_reducible rfl)
     refine wpAnyH_take (i := 3) (v := ?_) rfl (by kernel_rfl) (by kernel_rfl) (by kernel_rfl) (fun _ _ _ h => h) (Or.inl ⟨by rfl, ?_⟩) (by assumption) ?_
     rotate_left
     · (intro w hSw; (try dsimp only at hSw); obtain ⟨hS1, hS2, tu⟩ := hSw; go_simp; try with_reducible rfl)
     refine wpAnyH_take (i := 4) (v := ?_) rfl (by kernel_rfl) (by kernel_rfl) (by kernel_rfl) (fun _ _ _ h => h) (Or.inl ⟨by rfl, ?_⟩) (by assumption) ?_
     rotate_left
     · (intro w hSw; (try dsimp only at hSw); obtain ⟨hS1, hS2, tu⟩ := hSw; go_simp; try with_reducible rfl)
     refine wpAnyH_take (i := 6) (v := ?_) rfl (by kernel_rfl) (by kernel_rfl) (by kernel_rfl) (fun _ _ _ h => h) (Or.inl ⟨by rfl, ?_⟩) (by assumption) ?_
     rotate_left
     · (intro w hSw; (try dsimp only at hSw); obtain ⟨hS1, hS2, tu⟩ := hSw; go_simp; try with_reducible rfl)
     refine wpAnyH_take (i := 7) (v := ?_) rfl (by kernel_rfl) (by kernel_rfl) (by kernel_rfl) (fun _ _ _ h => h) (Or.inl ⟨by rfl, ?_⟩) (by assumption) ?_
     rotate_left
     · (intro w hSw; (try dsimp only at hSw); obtain ⟨hS1, hS2, tu⟩ := hSw; go_simp; try with_reducible rfl)
     refine wpAnyH_take (i := 8) (v := ?_) rfl (by kernel_rfl) (by kernel_rfl) (by kernel_rfl) (fun _ _ _ h => h) (Or.inl ⟨by rfl, ?_⟩) (by assumption) ?_
     rotate_left
     · (intro w hSw; (try dsimp only at hSw); obtain ⟨hS1, hS2, tu⟩ := hSw; go_simp; try with_reducible rfl)
     refine wpAnyH_take (i := 9) (v := ?_) rfl (by kernel_rfl) (by kernel_rfl) (by kernel_rfl) (fun _ _ _ h => h) (Or.inl ⟨by rfl, ?_⟩) (by assumption) ?_
     rotate_left
     · (intro w hSw; (try dsimp only at hSw); obtain ⟨hS1, hS2, tu⟩ := hSw; go_simp; try with_reducible rfl)
     refine wpAnyH_take (i := 10) (v := ?_) rfl (by kernel_rfl) (by kernel_rfl) (by kernel_rfl) (fun _ _ _ h => h) (Or.inl ⟨by rfl, ?_⟩) (by assumption) ?_
     rotate_left
     · (intro w hSw; (try dsimp only at hSw); obtain ⟨hS1, hS2, tu⟩ := hSw; go_simp; try with_reducible rfl)
     refine wpAnyH_take (i := 14) (v := ?_) rfl (by kernel_rfl) (by kernel_rfl) (by kernel_rfl) (fun _ _ _ h => h) (Or.inl ⟨by rfl, ?_⟩) (by assumption) ?_
     rotate_left
     · (intro w hSw; (try dsimp only at hSw); obtain ⟨hS1, hS2, tu⟩ := hSw; go_simp; try with_reducible rfl)
     refine wpAnyH_take (i := 15) (v := ?_) rfl (by kernel_rfl) (by kernel_rfl) (by kernel_rfl) (fun _ _ _ h => h) (Or.inl ⟨by rfl, ?_⟩) (by assumption) ?_
     rotate_left
     · (intro w hSw; (try dsimp only at hSw); obtain ⟨hS1, hS2, tu⟩ := hSw; go_simp; try with_reducible rfl)
     refine wpAnyH_take (i := 16) (v := ?_) rfl (by kernel_rfl) (by kernel_rfl) (by kernel_rfl) (fun _ _ _ h => h) (Or.inl ⟨by rfl, ?_⟩) (by assumption) ?_
     rotate_left
     · (intro w hSw; (try dsimp only at hSw); obtain ⟨hS1, hS2, tu⟩ := hSw; go_simp; try with_reducible rfl)
     refine wpAnyH_take (i := 17) (v := ?_) rfl (by kernel_rfl) (by kernel_rfl) (by kernel_rfl) (fun _ _ _ h => h) (Or.inl ⟨by rfl, ?_⟩) (by assumption) ?_
     rotate_left
     · (intro w hSw; (try dsimp only at hSw); obtain ⟨hS1, hS2, tu⟩ := hSw; go_simp; try with_reducible rfl)
     try simp only [Act.put, sI]
     refine wpAnyH_ready (rs := [5]) (by kernel_rfl) (by simp) ?_
     refine AllReadyH.cons rfl (fun K hK => ?_) AllReadyH.nil
     go_simp
     refine hK.out _ _ dS (fun hHeld => ?_)
     clear hK K
     try simp only [Act.put, sI]
     refine wpAnyH_ready (rs := [11]) (by kernel_rfl) (by simp) ?_
     refine AllReadyH.cons rfl (fun K hK => ?_) AllReadyH.nil
     go_simp
     refine (DR.out _).mono ?_
     rintro e w2 ⟨rfl, rfl⟩
     refine hK.out _ _ dS (fun hHeld => ?_)
     clear hK K
     try simp only [Act.put, sI]
     refine wpAnyH_take (i := 12) (v := ?_) rfl (by kernel_rfl) (by kernel_rfl) (by kernel_rfl) (fun _ _ _ h => h) (Or.inl ⟨by rfl, ?_⟩) (by assumption) ?_
     rotate_left
     · (intro w hSw; (try dsimp only at hSw); obtain ⟨hS1, hS2, tu⟩ := hSw; go_simp; try with_reducible rfl)
     refine wpAnyH_take (i := 13) (v := ?_) rfl (by kernel_rfl) (by kernel_rfl) (by kernel_rfl) (fun _ _ _ h => h) (Or.inl ⟨by rfl, ?_⟩) (by assumption) ?_
     rotate_left
     · (intro w hSw; (try dsimp only at hSw); obtain ⟨hS1, hS2, tu⟩ := hSw; go_simp; try with_reducible rfl)
     try simp only [Act.put, sI]
     refine wpAnyH_ready (rs := [18]) (by kernel_rfl) (by simp) ?_
     refine AllReadyH.cons rfl (fun K hK => ?_) AllReadyH.nil
     go_simp
     refine SS.out.mono ?_
     rintro e w3 ⟨b, il, rfl, hg⟩
     have HR := Lib.hid hg
     have x0 := aa hg.ed 0
     have x1 := aa hg.ed 1
     simp [dQ] at x0 x1
     have x2 := hg.ml dn hdk
     clear hg v2
     refine hK.out _ _ ⟨x0, x1, x2⟩ (fun hHeld => ?_)
     clear hK K
     try simp only [Act.put, sI]
     refine wpAnyH_done (by kernel_rfl) ?_ _
     go_wp2_with fail
     go_meet
     exact ⟨il, HR.out⟩
   · have hkb : (lM == 0) = false := by simp [hk0]
     have G40 : Hid (∃ il, GI dG sh B T rb (N + 40) W1 xb lb k kc bN il dx st l0 l1 l2 l3) := Lib.hid ⟨cu, H1.out.1.mO (by omega) (H1.out.1.wt.mono (by omega)) (Eff.refl _ _)⟩
     obtain ⟨en, n1, n2, n3⟩ := id H1.out.1.ee.blk
     have hpl := aK n2
     have hxl := aK H1.out.1.ed
     have hpx : sh.pe ≠ xb := fun e => F6 H1.out.1 e.symm
     by_cases hk1 : lM = 1
     · have akL : (lM == 1) = true := by simp [hk1]
       obtain ⟨nw, hnw, inw⟩ := H1.out.1.ee.int H1.out.1.wt (q := 17) (by omega) rfl
       have f17 := ay n2 17
       have FIN := Lib.hid (fun (n : Int) (hn : bB .i64 n) => show ∃ il, GI dG sh B T rb (N + 40) (W1.setCell ⟨sh.pe, 17, none⟩ (.int .i64 n)) xb lb k kc bN il dx st l0 l1 l2 l3 from ⟨cu, ((H1.out.1.mO (by omega) (H1.out.1.wt.mono (by omega)) (Eff.refl _ _)).ah6 (.inl rfl) hn)⟩)
       clear inw n1 n2 n3 hk1 hk0
       go_wp2_with fail
       go_meet
       exact FIN.out _ (Fw _)
     · have akL : (lM == 1) = false := by simp [hk1]
       by_cases hk2 : lM = 2
       · have hkb2 : (lM == 2) = true := by simp [hk2]
         obtain ⟨nw, hnw, inw⟩ := H1.out.1.ee.int H1.out.1.wt (q := 18) (by omega) rfl
         have f18 := ay n2 18
         have FIN := Lib.hid (show ∃ il, GI dG sh B T rb (N + 40) (W1.setCell ⟨sh.pe, 18, none⟩ (.int .i64 v)) xb lb k kc bN il dx st l0 l1 l2 l3 from ⟨cu, ((H1.out.1.mO (by omega) (H1.out.1.wt.mono (by omega)) (Eff.refl _ _)).ah6 (.inr rfl) HG.out.2.2.2.2.2)⟩)
         have adl := Lib.hid (fun w2 (E2 : Eff (fun _ _ _ => False) (W1.setCell ⟨sh.pe, 18, none⟩ (.int .i64 v)) w2) (W2 : WT kd.sig B (N + 40) (W1.setCell ⟨sh.pe, 18, none⟩ (.int .i64 v)) → WT kd.sig B (N + 40) w2) => show ∃ il, GI dG sh B T rb (N + 40) w2 xb lb k kc bN il dx st l0 l1 l2 l3 by
           obtain ⟨f2, hf⟩ := FIN.out
           exact ⟨f2, hf.mO (Nat.le_refl _) (W2 hf.wt) E2⟩)
         clear inw n1 n2 n3 hk1 hk0 hk2
         go_wp2_with fail
         go_region
         all_goals
           go_wp2_with fail
           go_meet
           exact adl.out _ ((Eff.refl _ _).drewN 1) (fun h => h.drewN 1)
       · have hkb2 : (lM == 2) = false := by simp [hk2]
         clear n1 n2 n3
         go_wp2_with fail
         go_meet
         exact G40.out
 case rest =>
   obtain ⟨sG, h1⟩ := hcut
   obtain ⟨c1, hc1, -⟩ := h1.ee.int h1.wt (q := 16) (by omega) rfl
   have hpx : sh.pe ≠ xb := fun e => F6 h1 e.symm
   have hxp : xb ≠ sh.pe := F6 h1
   have e0 := aa h1.ed 0
   have e4 := aa h1.ed 4
   have e5 := aa h1.ed 5
   have e6 := aa h1.ed 6
   have e7 := aa h1.ed 7
   simp [dQ] at e0 e4 e5 e6 e7
   have f4 := ay h1.ed 4
   have f5 := ay h1.ed 5
   have f6 := ay h1.ed 6
   have f7 := ay h1.ed 7
   have H2 := Lib.hid (h1.last (m0 := .int .i64 0) (m1 := .int .i64 0) (m2 := .int .u64 0) (m3 := .int .u64 0) ⟨⟨0, rfl, i64_in (by omega)⟩, ⟨0, rfl, i64_in (by omega)⟩, ⟨0, rfl, by constructor <;> decide⟩, ⟨0, rfl, by constructor <;> decide⟩, trivial⟩)
   clear h1 H1
   go_upto_region 10 with fail
   obtain ⟨w2, hw2⟩ : ∃ w2, w2 = (((wc.setCell ⟨xb, 4, none⟩ (.int .i64 0)).setCell ⟨xb, 5, none⟩ (.int .i64 0)).setCell ⟨xb, 6, none⟩ (.int .u64 0)).setCell ⟨xb, 7, none⟩ (.int .u64 0) := ⟨_, rfl⟩
   rw [← hw2] at H2
   rw [← hw2]
   clear hw2 e0 e4 e5 e6 e7 f4 f5 f6 f7 hc1
   obtain ⟨c1, hc1, -⟩ := H2.out.ee.int H2.out.wt (q := 16) (by omega) rfl
   have e0 := aa H2.out.ed 0
   simp [dQ] at e0
   go_upto_if 71 with fail
   go_cut [] (fun wx => ∃ l0 l1 l2 l3, GI dG sh B T rb (N + 40) wx xb lb k kc bN sG dx st l0 l1 l2 l3)
   case first =>
     have e4 := aa H2.out.ed 4
     have e5 := aa H2.out.ed 5
     have e6 := aa H2.out.ed 6
     have e7 := aa H2.out.ed 7
     simp [dQ] at e4 e5 e6 e7
     have f4 := ay H2.out.ed 4
     have f5 := ay H2.out.ed 5
     have f6 := ay H2.out.ed 6
     have f7 := ay H2.out.ed 7
     by_cases hgt : cnt < c1
     · obtain ⟨a0, ha0, i0⟩ := H2.out.ee.int H2.out.wt (q := 12) (by omega) rfl
       obtain ⟨a1, ha1, i1⟩ := H2.out.ee.int H2.out.wt (q := 13) (by omega) rfl
       obtain ⟨a2, ha2, i2⟩ := H2.out.ee.int H2.out.wt (q := 14) (by omega) rfl
       obtain ⟨a3, ha3, i3⟩ := H2.out.ee.int H2.out.wt (q := 15) (by omega) rfl
       have FIN := Lib.hid (H2.out.last (m0 := .int .i64 a0) (m1 := .int .i64 a1) (m2 := .int .u64 a2) (m3 := .int .u64 a3) ⟨⟨_, rfl, i0⟩, ⟨_, rfl, i1⟩, ⟨_, rfl, i2⟩, ⟨_, rfl, i3⟩, trivial⟩)
       clear i0 i1 i2 i3
       go_wp2_with fail
       go_meet
       exact ⟨_, _, _, _, FIN.out⟩
     · go_wp2_with fail
       go_meet
       exact ⟨_, _, _, _, H2.out⟩
   case rest =>
     obtain ⟨m0, m1, m2, m3, h3⟩ := hcut
     obtain ⟨en, n1, n2, n3⟩ := id h3.ee.blk
     obtain ⟨v20, GN, o20⟩ := bZ h3.wt aee n1 n2 (i := 20) (j := 20) (by rw [uT] at n3; omega) rfl rfl
     obtain ⟨ea, el, ec, rfl, hel⟩ : ∃ ea el ec, v20 = .slice ea el ec ∧ el ≤ N + 40 := by
       rcases df o20 with rfl | ⟨b, n', c, cur, rfl, -, -, -, -, h5⟩
       · exact ⟨_, _, _, rfl, by omega⟩
       · exact ⟨_, _, _, rfl, h5⟩
     have START : Hid (∃ sb st l0 l1 l2 l3, @GI (bY sb) dG sh B T rb (N + 40) wc xb lb k kc bN sG dx st l0 l1 l2 l3 ∧ wc.cell? ⟨sh.pe, 20, none⟩ = some (.slice ea el ec) ∧ el < bO st + (el + 1)) := Lib.hid ⟨uO, st, m0, m1, m2, m3, h3, GN, by omega⟩
     have hNb : N + 70 ≤ 68719476736 := HG.out.2.2.2.1
     clear h3 n1 n2 n3 o20 GN hc1 e0 H2
     go_wp2_with fail
     go_loopg [] (el + 1) (fun g wr => ∃ sb st l0 l1 l2 l3, @GI (bY sb) dG sh B T rb (N + 40) wr xb lb k kc bN sG dx st l0 l1 l2 l3 ∧ wr.cell? ⟨sh.pe, 20, none⟩ = some (.slice ea el ec) ∧ el < bO st + g)
     case atStart => exact START.out
     case round =>
       clear START
       obtain ⟨sb, st, l0, l1, l2, l3, h, GN, hg⟩ := hrel
       have e0 := aa h.vR 0
       have e2 := aa h.vR 2
       have e3 := aa h.vR 3
       simp [dQ] at e0 e2 e3
       have f2 := ay h.vR 2
       have o3 := h.Wq
       obtain ⟨sa, sl, sc, rfl, hsl⟩ : ∃ sa sl sc, st = .slice sa sl sc ∧ sl ≤ N + 40 := by
         rcases df o3 with rfl | ⟨b, n', c, cur, rfl, -, -, -, -, h5⟩
         · exact ⟨_, _, _, rfl, by omega⟩
         · exact ⟨_, _, _, rfl, h5⟩
       have HH := Lib.hid (And.intro h (And.intro o3 (And.intro hg hsl)))
       by_cases hlt : sl < el
       · have hlt' : (sl : Int) < (el : Int) := by omega
         have HL := Lib.hid (And.intro hlt hel)
         clear h o3 hg hsl hlt hel f2
         go_wp2_with fail
         go_region
         go_wp2_with fail
         obtain ⟨wq, hwq⟩ : ∃ wq, wq = wr.drew.drew := ⟨_, rfl⟩
         have HQ : Hid (@GI (bY sb) dG sh B T rb (N + 40) wq xb lb k kc bN sG dx (.slice sa sl sc) l0 l1 l2 l3 ∧ wq.cell? ⟨sh.pe, 20, none⟩ = some (.slice ea el ec) ∧ bB .i64 dx) := Lib.hid (by
           letI : Inhabited cK := bY sb
           have h := HH.out.1
           refine ⟨h.mO (Nat.le_refl _) (by rw [hwq]; exact h.wt.drew.drew) (by rw [hwq]; exact (Eff.refl _ _).drew.drew), by rw [hwq]; exact GN, ?_⟩
           obtain ⟨v, e, n, rfl, hn⟩ := bZ h.wt kE h.bx h.ed (i := 2) (j := 2) (by simp [dQ]) rfl rfl
           rw [aa h.ed] at e
           cases e
           exact hn)
         have q2 := aa HQ.out.1.vR 2
         have q3 := aa HQ.out.1.vR 3
         simp [dQ] at q2 q3
         refine wp_region_any (by kernel_rfl) ?_
         change wpAny _ _ _ _ _ _ _ wr.drew.drew
         rw [← hwq]
         clear hwq e0 e2 e3 GN
         refine wpAny_take (i := 0) (v := ?_) rfl (by kernel_rfl) (by kernel_rfl) (by kernel_rfl) (fun _ _ _ h => h) (Or.inl ⟨by rfl, ?_⟩) ?_
         rotate_left
         · (intro w; go_simp; try with_reducible rfl)
         refine wpAny_take (i := 1) (v := ?_) rfl (by kernel_rfl) (by kernel_rfl) (by kernel_rfl) (fun _ _ _ h => h) (Or.inl ⟨by rfl, ?_⟩) ?_
         rotate_left
         · (intro w; go_simp; try with_reducible rfl)
         refine wpAny_take (i := 2) (v := ?_) rfl (by kernel_rfl) (by kernel_rfl) (by kernel_rfl) (fun _ _ _ h => h) (Or.inl ⟨by rfl, ?_⟩) ?_
         rotate_left
         · (intro w; go_simp; try with_reducible rfl)
         refine wpAny_take (i := 3) (v := ?_) rfl (by kernel_rfl) (by kernel_rfl) (by kernel_rfl) (fun _ _ _ h => h) (Or.inl ⟨by rfl, ?_⟩) ?_
         rotate_left
         · (intro w; go_simp; try with_reducible rfl)
         refine wpAny_take (i := 5) (v := ?_) rfl (by kernel_rfl) (by kernel_rfl) (by kernel_rfl) (fun _ _ _ h => h) (Or.inl ⟨by rfl, ?_⟩) ?_
         rotate_left
         · (intro w; go_simp; try with_reducible rfl)
         refine wpAny_take (i := 6) (v := ?_) rfl (by kernel_rfl) (by kernel_rfl) (by kernel_rfl) (fun _ _ _ h => h) (Or.inl ⟨by rfl, ?_⟩) ?_
         rotate_left
         · (intro w; go_simp; try with_reducible rfl)
         refine wpAny_take (i := 7) (v := ?_) rfl (by kernel_rfl) (by kernel_rfl) (by kernel_rfl) (fun _ _ _ h => h) (Or.inl ⟨by rfl, ?_⟩) ?_
         rotate_left
         · (intro w; go_simp; try with_reducible rfl)
         try simp only [Act.put, sI]
         refine wpAny_ready (rs := [4, 8]) (by kernel_rfl) (by simp) ?_
         refine AllReady.cons rfl (fun K hK => ?_) (AllReady.cons rfl (fun K hK => ?_) AllReady.nil)
         · go_simp
           refine hK _ _ ?_
           clear hK K
           try simp only [Act.put, sI]
           refine wpAny_ready (rs := [8]) (by kernel_rfl) (by simp) ?_
           refine AllReady.cons rfl (fun K hK => ?_) AllReady.nil
           go_simp
           refine hK _ _ ?_
           clear hK K
           try simp only [Act.put, sI]
           refine wpAny_ready (rs := [9]) (by kernel_rfl) (by simp) ?_
           refine AllReady.cons rfl (fun K hK => ?_) AllReady.nil
           go_simp
           obtain ⟨wz, hwz⟩ : ∃ wz, wz = wq.alloc (.cells #[.int .i64 dx] 3) := ⟨_, rfl⟩
           obtain ⟨ab, hab⟩ : ∃ ab, ab = wq.heap.size := ⟨_, rfl⟩
           have HZ : Hid (@GI (bY sb) dG sh B T rb (N + 40) wz xb lb k kc bN sG dx (.slice sa sl sc) l0 l1 l2 l3 ∧ wz.heap[ab]? = some (.cells #[.int .i64 dx] IT (0, 0)) ∧ wz.cell? ⟨sh.pe, 20, none⟩ = some (.slice ea el ec)) := Lib.hid (by
             letI : Inhabited cK := bY sb
             have h := HQ.out.1
             have E1 : Eff (fun _ _ _ => False) wq wz := by rw [hwz]; exact Eff.bL _ _ _
             refine ⟨h.mO (Nat.le_refl _) (by rw [hwz]; exact h.wt.alloc kI (aT.one (l := [.int .i64 dx]) ⟨⟨_, rfl, HQ.out.2.2⟩, trivial⟩)) E1, by rw [hwz, hab]; exact blk_alloc_new _ _, E1.cell HQ.out.2.1 fun _ h => h⟩)
           have z3 := aa HZ.out.1.vR 3
           simp [dQ] at z3
           try rw [← hwz]
           try rw [← hab]
           clear hwz hab
           refine hK _ _ ?_
           clear hK K
           try simp only [Act.put, sI]
           refine wpAny_ready (rs := [10]) (by kernel_rfl) (by simp) ?_
           refine AllReady.cons rfl (fun K hK => ?_) AllReady.nil
           rw [if_pos (by rfl)]
           refine wD (B := B) (N := N + 40) (st := .slice sa sl sc) (sb := sb) (b := ab) (v := dx) rfl rfl rfl (by letI : Inhabited cK := bY sb; exact HZ.out.1.wt) (by letI : Inhabited cK := bY sb; exact HZ.out.1.bw) HZ.out.1.Wq (by letI : Inhabited cK := bY sb; exact HZ.out.1.A9) HQ.out.2.2 HZ.out.2.1 (by have h1 : sl ≤ N + 40 := HH.out.2.2.2; show sl < _; omega) ?_
           intro g' cap' w5 A
           obtain ⟨k1, k2⟩ := HZ.out.1.Uo A
           have c5 := aa k1 3
           simp [dQ] at c5
           have f5 := ay k1 3
           have PU : Hid ((∃ sb', @GI (bY sb') dG sh B T rb (N + 40) (w5.setCell ⟨xb, 3, none⟩ (.slice (some ⟨g', 0, none⟩) (sl + 1) cap')) xb lb k kc bN sG dx (.slice (some ⟨g', 0, none⟩) (sl + 1) cap') l0 l1 l2 l3) ∧ (w5.setCell ⟨xb, 3, none⟩ (.slice (some ⟨g', 0, none⟩) (sl + 1) cap')).cell? ⟨sh.pe, 20, none⟩ = some (.slice ea el ec)) := Lib.hid ⟨HZ.out.1.stamp A (by have h1 := HL.out.1; have h2 := HL.out.2; show sl + 1 ≤ _; omega), by rw [dX hpx, k2]; exact HZ.out.2.2⟩
           have zU : bO (Value.slice sa sl sc) = sl := rfl
           rw [zU]
           clear A k1 k2 zU
           refine hK _ _ ?_
           clear hK K
           try simp only [Act.put, sI]
           refine wpAny_take (i := 11) (v := ?_) rfl (by kernel_rfl) (by kernel_rfl) (by kernel_rfl) (fun _ _ _ h => h) (Or.inl ⟨by rfl, ?_⟩) ?_
           rotate_left
           · (intro w; go_simp; try with_reducible rfl)
           refine wpAny_take (i := 12) (v := ?_) rfl (by kernel_rfl) (by kernel_rfl) (by kernel_rfl) (fun _ _ _ h => h) (Or.inl ⟨by rfl, ?_⟩) ?_
           rotate_left
           · (intro w; go_simp; try with_reducible rfl)
           try simp only [Act.put, sI]
           refine wpAny_ready (rs := [13]) (by kernel_rfl) (by simp) ?_
           refine AllReady.cons rfl (fun K hK => ?_) AllReady.nil
           go_simp
           refine hK _ _ ?_
           clear hK K
           try simp only [Act.put, sI]
           refine wpAny_done (by kernel_rfl) ?_ _
           obtain ⟨⟨sb', s1⟩, s2⟩ := PU.out
           go_wp2_with fail
           have hg := HH.out.2.2.1
           have h1 := HL.out.1
           go_roundg (el - sl)
           case measure => simp only [bO] at hg; omega
           case rel => exact ⟨sb', _, _, _, _, _, s1, s2, by show el < sl + 1 + (el - sl); omega⟩
         · go_simp
           refine hK _ _ ?_
           clear hK K
           try simp only [Act.put, sI]
           refine wpAny_ready (rs := [4, 9]) (by kernel_rfl) (by simp) ?_
           refine AllReady.cons rfl (fun K hK => ?_) (AllReady.cons rfl (fun K hK => ?_) AllReady.nil)
           · go_simp
             refine hK _ _ ?_
             clear hK K
             try simp only [Act.put, sI]
             refine wpAny_ready (rs := [9]) (by kernel_rfl) (by simp) ?_
             refine AllReady.cons rfl (fun K hK => ?_) AllReady.nil
             go_simp
             obtain ⟨wz, hwz⟩ : ∃ wz, wz = wq.alloc (.cells #[.int .i64 dx] 3) := ⟨_, rfl⟩
             obtain ⟨ab, hab⟩ : ∃ ab, ab = wq.heap.size := ⟨_, rfl⟩
             have HZ : Hid (@GI (bY sb) dG sh B T rb (N + 40) wz xb lb k kc bN sG dx (.slice sa sl sc) l0 l1 l2 l3 ∧ wz.heap[ab]? = some (.cells #[.int .i64 dx] IT (0, 0)) ∧ wz.cell? ⟨sh.pe, 20, none⟩ = some (.slice ea el ec)) := Lib.hid (by
               letI : Inhabited cK := bY sb
               have h := HQ.out.1
               have E1 : Eff (fun _ _ _ => False) wq wz := by rw [hwz]; exact Eff.bL _ _ _
               refine ⟨h.mO (Nat.le_refl _) (by rw [hwz]; exact h.wt.alloc kI (aT.one (l := [.int .i64 dx]) ⟨⟨_, rfl, HQ.out.2.2⟩, trivial⟩)) E1, by rw [hwz, hab]; exact blk_alloc_new _ _, E1.cell HQ.out.2.1 fun _ h => h⟩)
             have z3 := aa HZ.out.1.vR 3
             simp [dQ] at z3
             try rw [← hwz]
             try rw [← hab]
             clear hwz hab
             refine hK _ _ ?_
             clear hK K
             try simp only [Act.put, sI]
             refine wpAny_ready (rs := [10]) (by kernel_rfl) (by simp) ?_
             refine AllReady.cons rfl (fun K hK => ?_) AllReady.nil
             rw [if_pos (by rfl)]
             refine wD (B := B) (N := N + 40) (st := .slice sa sl sc) (sb := sb) (b := ab) (v := dx) rfl rfl rfl (by letI : Inhabited cK := bY sb; exact HZ.out.1.wt) (by letI : Inhabited cK := bY sb; exact HZ.out.1.bw) HZ.out.1.Wq (by letI : Inhabited cK := bY sb; exact HZ.out.1.A9) HQ.out.2.2 HZ.out.2.1 (by have h1 : sl ≤ N + 40 := HH.out.2.2.2; show sl < _; omega) ?_
             intro g' cap' w5 A
             obtain ⟨k1, k2⟩ := HZ.out.1.Uo A
             have c5 := aa k1 3
             simp [dQ] at c5
             have f5 := ay k1 3
             have PU : Hid ((∃ sb', @GI (bY sb') dG sh B T rb (N + 40) (w5.setCell ⟨xb, 3, none⟩ (.slice (some ⟨g', 0, none⟩) (sl + 1) cap')) xb lb k kc bN sG dx (.slice (some ⟨g', 0, none⟩) (sl + 1) cap') l0 l1 l2 l3) ∧ (w5.setCell ⟨xb, 3, none⟩ (.slice (some ⟨g', 0, none⟩) (sl + 1) cap')).cell? ⟨sh.pe, 20, none⟩ = some (.slice ea el ec)) := Lib.hid ⟨HZ.out.1.stamp A (by have h1 := HL.out.1; have h2 := HL.out.2; show sl + 1 ≤ _; omega), by rw [dX hpx, k2]; exact HZ.out.2.2⟩
             have zU : bO (Value.slice sa sl sc) = sl := rfl
             rw [zU]
             clear A k1 k2 zU
             refine hK _ _ ?_
             clear hK K
             try simp only [Act.put, sI]
             refine wpAny_take (i := 11) (v := ?_) rfl (by kernel_rfl) (by kernel_rfl) (by kernel_rfl) (fun _ _ _ h => h) (Or.inl ⟨by rfl, ?_⟩) ?_
             rotate_left
             · (intro w; go_simp; try with_reducible rfl)
             refine wpAny_take (i := 12) (v := ?_) rfl (by kernel_rfl) (by kernel_rfl) (by kernel_rfl) (fun _ _ _ h => h) (Or.inl ⟨by rfl, ?_⟩) ?_
             rotate_left
             · (intro w; go_simp; try with_reducible rfl)
             try simp only [Act.put, sI]
             refine wpAny_ready (rs := [13]) (by kernel_rfl) (by simp) ?_
             refine AllReady.cons rfl (fun K hK => ?_) AllReady.nil
             go_simp
             refine hK _ _ ?_
             clear hK K
             try simp only [Act.put, sI]
             refine wpAny_done (by kernel_rfl) ?_ _
             obtain ⟨⟨sb', s1⟩, s2⟩ := PU.out
             go_wp2_with fail
             have hg := HH.out.2.2.1
             have h1 := HL.out.1
             go_roundg (el - sl)
             case measure => simp only [bO] at hg; omega
             case rel => exact ⟨sb', _, _, _, _, _, s1, s2, by show el < sl + 1 + (el - sl); omega⟩
           · go_simp
             obtain ⟨wz, hwz⟩ : ∃ wz, wz = wq.alloc (.cells #[.int .i64 dx] 3) := ⟨_, rfl⟩
             obtain ⟨ab, hab⟩ : ∃ ab, ab = wq.heap.size := ⟨_, rfl⟩
             have HZ : Hid (@GI (bY sb) dG sh B T rb (N + 40) wz xb lb k kc bN sG dx (.slice sa sl sc) l0 l1 l2 l3 ∧ wz.heap[ab]? = some (.cells #[.int .i64 dx] IT (0, 0)) ∧ wz.cell? ⟨sh.pe, 20, none⟩ = some (.slice ea el ec)) := Lib.hid (by
               letI : Inhabited cK := bY sb
               have h := HQ.out.1
               have E1 : Eff (fun _ _ _ => False) wq wz := by rw [hwz]; exact Eff.bL _ _ _
               refine ⟨h.mO (Nat.le_refl _) (by rw [hwz]; exact h.wt.alloc kI (aT.one (l := [.int .i64 dx]) ⟨⟨_, rfl, HQ.out.2.2⟩, trivial⟩)) E1, by rw [hwz, hab]; exact blk_alloc_new _ _, E1.cell HQ.out.2.1 fun _ h => h⟩)
             have z3 := aa HZ.out.1.vR 3
             simp [dQ] at z3
             try rw [← hwz]
             try rw [← hab]
             clear hwz hab
             refine hK _ _ ?_
             clear hK K
             try simp only [Act.put, sI]
             refine wpAny_ready (rs := [4]) (by kernel_rfl) (by simp) ?_
             refine AllReady.cons rfl (fun K hK => ?_) AllReady.nil
             go_simp
             refine hK _ _ ?_
             clear hK K
             try simp only [Act.put, sI]
             refine wpAny_ready (rs := [10]) (by kernel_rfl) (by simp) ?_
             refine AllReady.cons rfl (fun K hK => ?_) AllReady.nil
             rw [if_pos (by rfl)]
             refine wD (B := B) (N := N + 40) (st := .slice sa sl sc) (sb := sb) (b := ab) (v := dx) rfl rfl rfl (by letI : Inhabited cK := bY sb; exact HZ.out.1.wt) (by letI : Inhabited cK := bY sb; exact HZ.out.1.bw) HZ.out.1.Wq (by letI : Inhabited cK := bY sb; exact HZ.out.1.A9) HQ.out.2.2 HZ.out.2.1 (by have h1 : sl ≤ N + 40 := HH.out.2.2.2; show sl < _; omega) ?_
             intro g' cap' w5 A
             obtain ⟨k1, k2⟩ := HZ.out.1.Uo A
             have c5 := aa k1 3
             simp [dQ] at c5
             have f5 := ay k1 3
             have PU : Hid ((∃ sb', @GI (bY sb') dG sh B T rb (N + 40) (w5.setCell ⟨xb, 3, none⟩ (.slice (some ⟨g', 0, none⟩) (sl + 1) cap')) xb lb k kc bN sG dx (.slice (some ⟨g', 0, none⟩) (sl + 1) cap') l0 l1 l2 l3) ∧ (w5.setCell ⟨xb, 3, none⟩ (.slice (some ⟨g', 0, none⟩) (sl + 1) cap')).cell? ⟨sh.pe, 20, none⟩ = some (.slice ea el ec)) := Lib.hid ⟨HZ.out.1.stamp A (by have h1 := HL.out.1; have h2 := HL.out.2; show sl + 1 ≤ _; omega), by rw [dX hpx, k2]; exact HZ.out.2.2⟩
             have zU : bO (Value.slice sa sl sc) = sl := rfl
             rw [zU]
             clear A k1 k2 zU
             refine hK _ _ ?_
             clear hK K
             try simp only [Act.put, sI]
             refine wpAny_take (i := 11) (v := ?_) rfl (by kernel_rfl) (by kernel_rfl) (by kernel_rfl) (fun _ _ _ h => h) (Or.inl ⟨by rfl, ?_⟩) ?_
             rotate_left
             · (intro w; go_simp; try with_reducible rfl)
             refine wpAny_take (i := 12) (v := ?_) rfl (by kernel_rfl) (by kernel_rfl) (by kernel_rfl) (fun _ _ _ h => h) (Or.inl ⟨by rfl, ?_⟩) ?_
             rotate_left
             · (intro w; go_simp; try with_reducible rfl)
             try simp only [Act.put, sI]
             refine wpAny_ready (rs := [13]) (by kernel_rfl) (by simp) ?_
             refine AllReady.cons rfl (fun K hK => ?_) AllReady.nil
             go_simp
             refine hK _ _ ?_
             clear hK K
             try simp only [Act.put, sI]
             refine wpAny_done (by kernel_rfl) ?_ _
             obtain ⟨⟨sb', s1⟩, s2⟩ := PU.out
             go_wp2_with fail
             have hg := HH.out.2.2.1
             have h1 := HL.out.1
             go_roundg (el - sl)
             case measure => simp only [bO] at hg; omega
             case rel => exact ⟨sb', _, _, _, _, _, s1, s2, by show el < sl + 1 + (el - sl); omega⟩
       · have hlt' : ¬ (sl : Int) < (el : Int) := by omega
         have FIN := Lib.hid (fun (n : Int) (hn : bB .i64 n) => show ∃ sb il sw st' m0 m1 m2 m3, @GI (bY sb) dG sh B T rb (N + 40) (wr.setCell ⟨xb, 2, none⟩ (.int .i64 n)) xb lb k kc bN il sw st' m0 m1 m2 m3 ∧ UH (wr.setCell ⟨xb, 2, none⟩ (.int .i64 n)) sh.pe st' from ⟨sb, sG, n, _, _, _, _, _, (by letI : Inhabited cK := bY sb; exact h.bG hn), _, (by rw [dX hpx]; exact GN), (by show el ≤ sl; omega)⟩)
         have adl := Lib.hid (fun (n : Int) (hn : bB .i64 n) w2 (E2 : w2 = (wr.setCell ⟨xb, 2, none⟩ (.int .i64 n)).drewN 1) => show ∃ sb il sw st' m0 m1 m2 m3, @GI (bY sb) dG sh B T rb (N + 40) w2 xb lb k kc bN il sw st' m0 m1 m2 m3 ∧ UH w2 sh.pe st' by
           obtain ⟨sb, il, sw, st', m0, m1, m2, m3, hf, ev, he1, he2⟩ := FIN.out n hn
           letI : Inhabited cK := bY sb
           exact ⟨sb, il, sw, st', m0, m1, m2, m3, hf.mO (Nat.le_refl _) (by rw [E2]; exact hf.wt.drewN 1) (by rw [E2]; exact (Eff.refl _ _).drewN 1), ev, (by rw [E2]; exact he1), he2⟩)
         clear h o3 hg hsl hlt hel
         go_wp2_with fail
         go_region
         go_wp2_with fail
         refine bodyPost_end (results_none rfl _ _ _) rfl ⟨rfl, ?_⟩
         exact adl.out _ (Fw _) _ rfl
end
end Go.Proofs.YtncnepmgmphanaaGreatDoor
