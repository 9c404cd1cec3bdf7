/- A machine's stack of frames: a frame laid on it, one taken off; a machine at rest. Plain; no condition beside those named. -/
import Derived.Test.YtncnepmgmphanaaGreatDoorMg20
import Derived.Test.YtncnepmgmphanaaGreatDoorMg10
import Derived.Test.YtncnepmgmphanaaGreatDoorMg00
import Derived.Laws.AppendOwnNone
set_option linter.unusedVariables false
set_option linter.unusedSimpArgs false
set_option linter.unusedSectionVars false
namespace Go.Proofs.YtncnepmgmphanaaGreatDoor
open Go.RowKit
variable [Inhabited SBW] {sh : Sh} {B N T : Nat} {w w' : World} {rb cr mb fb0 n fb cap : Nat} {w0 : World} {κ : Nat → Int} {c2 c3 : Int}
theorem slF_ok {m : Nat} {cur : Array Value} (hm : m ≤ N) (hB : B ≤ fb) (hb : w.heap[fb]? = some (.cells cur FRT (0, 0))) (hc : m ≤ cap) (hx : cap ≤ maxLen) (hs : cur.size = cap * 18) : CellOK w B N (.sl FRT 18) (.slice (some ⟨fb, 0, none⟩) m cap) := by
  refine ⟨m, cur.toList.take (m * 18), hm, ?_, .inr ⟨fb, cap, cur, rfl, hB, hb, hc, hx, hs, rfl⟩⟩
  rw [List.length_take, Array.length_toList, hs]
  exact Nat.min_eq_left (Nat.mul_le_mul_right 18 hc)
theorem mset_np2 {v : Value} {i : Nat} {c : Array Value} (hb : w.heap[mb]? = some (.cells c MT (0, 0))) : Eff NP2 w (w.setCell ⟨mb, i, none⟩ v) := by
  refine (Eff.refl NP2 w).setT hb (.inl ?_)
  have : ∀ q, (MT, q) ∉ prot2 := fun q hq => by simp [prot2, prot, MT] at hq
  exact this _
theorem mset_s {v : Value} {i : Nat} {c : Array Value} (hb : w.heap[mb]? = some (.cells c MT (0, 0))) : Eff (SCh B w0 mb fb0) w (w.setCell ⟨mb, i, none⟩ v) := (Eff.refl _ w).setT hb (.inl (.inl rfl))
theorem ne_mf {f g : Array Value} {a b : Nat} (ha : w.heap[a]? = some (.cells f MT (0, 0))) (hb : w.heap[b]? = some (.cells g FRT (0, 0))) : a ≠ b := fun e => by
  subst e
  rw [ha] at hb
  cases hb
theorem SL.cut (h : SL sh B T rb w0 mb fb0 N w n κ fb cap c2 c3) (hrb : sh.el 19 = .slice (some ⟨rb, 0, none⟩) T cr) {m : Nat} (hm : m ≤ n) : SL sh B T rb w0 mb fb0 N (w.setCell ⟨mb, 0, none⟩ (.slice (some ⟨fb, 0, none⟩) (m + 1) cap)) m κ fb cap c2 c3 ∧ (m < n → PI sh T (w.setCell ⟨mb, 0, none⟩ (.slice (some ⟨fb, 0, none⟩) (m + 1) cap)) rb fb m (κ m) (κ (m + 1))) := by
  obtain ⟨cur, f1, f2, f3, f4, f5, f6⟩ := h.blk
  have g2 : Eff NP2 w (w.setCell ⟨mb, 0, none⟩ (.slice (some ⟨fb, 0, none⟩) (m + 1) cap)) := mset_np2 h.mac
  have hnp := np2_np g2
  have hne := ne_mf h.mac f2
  have K : ∀ i o, fc (w.setCell ⟨mb, 0, none⟩ (.slice (some ⟨fb, 0, none⟩) (m + 1) cap)) fb i o = fc w fb i o := fun i o => cell_ne (Ne.symm hne)
  have hpk : ∀ i, i < n → PI sh T (w.setCell ⟨mb, 0, none⟩ (.slice (some ⟨fb, 0, none⟩) (m + 1) cap)) rb fb i (κ i) (κ (i + 1)) := fun i hi => (h.pairs i hi).keep h.wt (h.row (by omega)) hnp (fun o _ => K i o) fun _ t _ hp => hp.keep2 h.ee hrb g2
  refine ⟨⟨h.ee.mono h.wt hnp (Nat.le_refl _), h.wt.set h.mac kM (ck := .sl FRT 18) rfl (slF_ok (by omega) f1 f2 (by omega) f4 f5), Nat.le_trans h.bw g2.size, ?_, h.bm, h.mbl, h.fbl, h.eff.trans (mset_s h.mac), h.fbk, fun i hi => hpk i (by omega), ?_, ?_⟩, fun hmn => hpk m hmn⟩
  · rw [blk_setCell h.mac]; simp [mcells]
  · rcases Nat.lt_or_ge m n with h1 | h1
    · exact (h.pairs m h1).lo
    · rw [show m = n by omega]; exact h.lo
  · rcases Nat.lt_or_ge m n with h1 | h1
    · exact (h.pairs m h1).hi
    · rw [show m = n by omega]; exact h.hi
theorem SL.push {w1 : World} {fb' cap' : Nat} {cs : List Value} {c : Int} (h : SL sh B T rb w0 mb fb0 N w n κ fb cap c2 c3) (hrb : sh.el 19 = .slice (some ⟨rb, 0, none⟩) T cr) (hN : 8 ≤ N) (hP : PI sh T w rb fb n (κ n) c) (ha : AllOK w B N cs_r08_Frame cs) (h0 : cs[0]? = some (.int .i64 c)) (h1 : cs[1]? = some (.int .i64 1)) (h17 : c = 24 → ∃ lb m cp, cs[17]? = some (.slice (some ⟨lb, 0, none⟩) (m + 1) cp) ∧ lb ≠ SBn) (A : AppTold kd FRT 18 B N w fb (n + 1) cs fb' cap' w1) :
    ∃ κ', (∀ i, i ≤ n → κ' i = κ i) ∧ κ' (n + 1) = c ∧ SL sh B T rb w0 mb fb0 N (w1.setCell ⟨mb, 0, none⟩ (.slice (some ⟨fb', 0, none⟩) (n + 1 + 1) cap')) (n + 1) κ' fb' cap' c2 c3 ∧ FI T (w1.setCell ⟨mb, 0, none⟩ (.slice (some ⟨fb', 0, none⟩) (n + 1 + 1) cap')) fb' (n + 1) c 1 := by
  obtain ⟨cur, f1, f2, f3, f4, f5, f6⟩ := h.blk
  obtain ⟨cur', b1, b2⟩ := A.blk
  have hsm := h.small
  have hs := h.eff.size
  have hmf := ne_mf h.mac f2
  have mac1 : w1.heap[mb]? = some (.cells (mcells fb (n + 1) cap c2 c3) MT (0, 0)) := A.eff.blk h.mac fun _ _ hx => hmf hx.1
  have hmf' := ne_mf mac1 b1
  have g1 : Eff NP2 w w1 := A.eff.monoT fun k cc U f j hk hc => by
    obtain ⟨rfl, -⟩ := hc
    rw [f2] at hk
    cases hk
    have : ∀ q, (FRT, q) ∉ prot2 := fun q hq => by simp [prot2, prot, FRT] at hq
    exact this _
  have g2 : Eff NP2 w (w1.setCell ⟨mb, 0, none⟩ (.slice (some ⟨fb', 0, none⟩) (n + 1 + 1) cap')) := g1.trans (mset_np2 mac1)
  have hnp := np2_np g2
  have hB' : B ≤ fb' := by
    rcases A.at' with e | e
    · omega
    · have := h.bw; omega
  have K : ∀ i o, i ≤ n → o < 18 → fc (w1.setCell ⟨mb, 0, none⟩ (.slice (some ⟨fb', 0, none⟩) (n + 1 + 1) cap')) fb' i o = fc w fb i o := fun i o hi ho => by
    unfold fc
    rw [cell_ne (Ne.symm hmf')]
    refine A.old _ ?_
    have : i * 18 ≤ n * 18 := Nat.mul_le_mul_right 18 hi
    omega
  have Kn : ∀ o v, cs[o]? = some v → fc (w1.setCell ⟨mb, 0, none⟩ (.slice (some ⟨fb', 0, none⟩) (n + 1 + 1) cap')) fb' (n + 1) o = some v := fun o v hv => by
    unfold fc
    rw [cell_ne (Ne.symm hmf')]
    exact A.new o v hv
  have pk : ∀ i k c', i ≤ n → PI sh T w rb fb i k c' → PI sh T (w1.setCell ⟨mb, 0, none⟩ (.slice (some ⟨fb', 0, none⟩) (n + 1 + 1) cap')) rb fb' i k c' := fun i k c' hi hp => hp.keep h.wt (h.row hi) hnp (fun o ho => K i o hi ho) fun _ t _ hx => hx.keep2 h.ee hrb g2
  refine ⟨fun i => if i = n + 1 then c else κ i, fun i hi => if_neg (by omega), if_pos rfl, ?_, ?_⟩
  · refine ⟨h.ee.mono h.wt hnp (Nat.le_refl _), A.wt.set mac1 kM (ck := .sl FRT 18) rfl (slF_ok (by omega) hB' b1 A.cap A.max b2), Nat.le_trans h.bw g2.size, ?_, h.bm, h.mbl, h.fbl, ?_, ?_, fun i hi => ?_, by simp only [if_true]; exact hP.clo, by simp only [if_true]; have := hP.chi; omega⟩
    · rw [blk_setCell mac1]; simp [mcells]
    · refine (h.eff.trans (A.eff.mono fun k U j hk hc => ?_)).trans (mset_s mac1)
      obtain ⟨rfl, -⟩ := hc
      rcases h.fbk with e | e
      · exact .inr (.inl e)
      · exact .inr (.inr (.inl e))
    · rcases A.at' with e | e
      · rw [e]; exact h.fbk
      · exact .inr (by omega)
    · by_cases hin : i = n
      · subst hin
        simp only [if_neg (show ¬ i = i + 1 by omega), if_true]
        exact pk i _ _ (by omega) hP
      · simp only [if_neg (show ¬ i = n + 1 by omega), if_neg (show ¬ i + 1 = n + 1 by omega)]
        exact pk i _ _ (by omega) (h.pairs i (by omega))
  · refine ⟨Kn 0 _ h0, Kn 1 _ h1, hP.clo, by have := hP.chi; omega, fun hc => ?_, fun hc => by have := hP.chi; omega⟩
    obtain ⟨lb, m, cp, hl, hne⟩ := h17 hc
    obtain ⟨ck, e1, o⟩ := ha.get hl
    cases e1
    obtain ⟨t, ht⟩ := sl_last h.wt o
    exact ⟨lb, m, cp, t, ⟨Kn 17 _ hl, sl_keep o hnp ht, hne⟩, .inl rfl⟩
structure MR (sh : Sh) (T rb : Nat) (w : World) (mb : Nat) (n : Nat) (κ : Nat → Int) (fb cap : Nat) (c2 c3 : Int) : Prop where
  mac : w.heap[mb]? = some (.cells (mcells fb (n + 1) cap c2 c3) MT (0, 0))
  pairs : ∀ i, i < n → PI sh T w rb fb i (κ i) (κ (i + 1))
  no12 : ∀ i, i < n → κ (i + 1) ≠ 12
  lo : 0 ≤ κ n
  hi : κ n ≤ 26
  last : ∃ ln, FI T w fb n (κ n) ln
def MI (sh : Sh) (T rb : Nat) (w : World) (mb fb : Nat) : Prop :=
  (∃ v0 v2 v3, w.heap[mb]? = some (.cells #[v0, .bool true, v2, v3] MT (0, 0))) ∨ ∃ n κ cap c2 c3, MR sh T rb w mb n κ fb cap c2 c3
theorem SL.of_mr (h : MR sh T rb w mb n κ fb cap c2 c3) (ee : EE sh B N T w) (wt : WT kd.sig B N w) (bw : B ≤ w.heap.size) (bm : B ≤ mb) (hfl : fb < w.heap.size) : SL sh B T rb w mb fb N w n κ fb cap c2 c3 :=
  ⟨ee, wt, bw, h.mac, bm, lt_of_blk h.mac, hfl, Eff.refl _ _, .inl rfl, h.pairs, h.lo, h.hi⟩
theorem SL.mid (h : SL sh B T rb w0 mb fb0 N w n κ fb cap c2 c3) : ∀ i, i + 1 < n → κ (i + 1) ≠ 12 := fun i hi hc => by
  have := (h.pairs (i + 1) hi).rk
  rw [hc] at this
  exact absurd this (by simp [rank])
theorem SL.mr (h : SL sh B T rb w0 mb fb0 N w n κ fb cap c2 c3) (h12 : κ n ≠ 12) (hl : ∃ ln, FI T w fb n (κ n) ln) : MR sh T rb w mb n κ fb cap c2 c3 :=
  ⟨h.mac, h.pairs, fun i hi => by
    by_cases hin : i + 1 = n
    · rw [hin]; exact h12
    · exact h.mid i (by omega), h.lo, h.hi, hl⟩
theorem MI.other {mb' fb' : Nat} {cm : Array Value} (h : MI sh T rb w mb fb) (hw : WT kd.sig B N w) (bm : B ≤ mb) (hb' : w.heap[mb']? = some (.cells cm MT (0, 0))) (hm : mb ≠ mb') (hf : fb ≠ fb') (hf' : ∃ f, w.heap[fb']? = some (.cells f FRT (0, 0))) (g : Eff (SCh B w mb' fb') w w') : MI sh T rb w' mb fb := by
  obtain ⟨ff, hff⟩ := hf'
  have macs : ∀ c : Array Value, w.heap[mb]? = some (.cells c MT (0, 0)) → w'.heap[mb]? = some (.cells c MT (0, 0)) := fun c hc => by
    obtain ⟨c', h1, h2, h3⟩ := g.cells _ _ _ _ hc
    rw [h1]
    congr 2
    refine blk_eq fun j => h3 j ?_
    have hk := lt_of_blk hc
    rintro (hx | rfl | hx | ⟨-, hx⟩)
    · exact hm hx
    · rw [hc] at hff; cases hff
    · omega
    · have szM : kd.sz MT = 4 := by kernel_rfl
      have hx := hx.1
      rw [szM] at hx
      have h4 : j % 4 = 0 ∨ j % 4 = 1 ∨ j % 4 = 2 ∨ j % 4 = 3 := by omega
      rcases h4 with e | e | e | e <;> rw [e] at hx <;> exact hx (by decide)
  rcases h with ⟨v0, v2, v3, hx⟩ | ⟨n, κ, cap, c2, c3, h⟩
  · exact .inl ⟨v0, v2, v3, macs _ hx⟩
  · refine .inr ⟨n, κ, cap, c2, c3, ?_⟩
    obtain ⟨v, e, o⟩ := row_cell hw kM bm h.mac (i := 0) (j := 0) (by simp [mcells]) rfl rfl
    rw [cell_blk h.mac] at e
    cases e
    obtain ⟨n', xs, hn, hl, ⟨hx, -⟩ | ⟨b, cp, cur, hx, f1, f2, f3, f4, f5, f6⟩⟩ := o
    · cases hx
    cases hx
    have hfl := lt_of_blk f2
    have hnp : Eff NPc w w' := g.monoT fun k c U f j hk hc => by
      rcases hc with rfl | rfl | hc | ⟨-, hc⟩
      · rw [hb'] at hk
        cases hk
        have : ∀ q, (MT, q) ∉ prot := fun q hq => by simp [prot, MT] at hq
        exact this _
      · rw [hff] at hk
        cases hk
        have : ∀ q, (FRT, q) ∉ prot := fun q hq => by simp [prot, FRT] at hq
        exact this _
      · have := lt_of_blk hk; omega
      · exact protM_of hc.1
    have K : ∀ i o, fc w' fb i o = fc w fb i o := fun i o => by
      obtain ⟨c', h1, h2, h3⟩ := g.cells _ _ _ _ f2
      unfold fc
      rw [cell_blk h1, cell_blk f2, h3]
      rintro (rfl | hx | hx | ⟨hx, -⟩)
      · rw [f2] at hb'; cases hb'
      · exact hf hx
      · omega
      · exact hx rfl
    have row : ∀ i, i ≤ n → RowIn kd w B FRT fb i := fun i hi => ⟨cur, f1, f2, by rw [szF, f5]; exact Nat.mul_le_mul_right 18 (by omega)⟩
    obtain ⟨ln, hF⟩ := h.last
    exact ⟨macs _ h.mac, fun i hi => (h.pairs i hi).keep hw (row i (by omega)) hnp (fun o _ => K i o) fun hc => absurd hc (h.no12 i hi), h.no12, h.lo, h.hi, ln, hF.keep hw (row n (by omega)) hnp fun o _ => K n o⟩
end Go.Proofs.YtncnepmgmphanaaGreatDoor

namespace Go.Proofs.YtncnepmgmphanaaGreatDoor
open Go.RowKit
end Go.Proofs.YtncnepmgmphanaaGreatDoor

namespace Go.Proofs.YtncnepmgmphanaaGreatDoor
open Go.RowKit
variable [Inhabited SBW] {sh : Sh} {B N T : Nat} {w w' : World} {rb cr mb fb0 n fb cap : Nat} {w0 : World} {κ : Nat → Int} {c2 c3 : Int}
theorem SL.c0 (h : SL sh B T rb w0 mb fb0 N w n κ fb cap c2 c3) : w.cell? ⟨mb, 0, none⟩ = some (.slice (some ⟨fb, 0, none⟩) (n + 1) cap) := by rw [cell_blk h.mac]; rfl
theorem SL.out0 (h : SL sh B T rb w0 mb fb0 N w n κ fb cap c2 c3) (hrb : sh.el 19 = .slice (some ⟨rb, 0, none⟩) T cr) {N' : Nat} (hN : N ≤ N') (g : Eff (fun _ _ _ => False) w w') (hw' : WT kd.sig B N' w') : SL sh B T rb w0 mb fb0 N' w' n κ fb cap c2 c3 := h.out hrb hN hw' (g.mono fun _ _ _ _ h => h.elim)
abbrev Out (w0 : World) (mb fb : Nat) (k : Nat) (U : TypeId) (j : Nat) : Prop := k ≠ fb ∧ k ≠ mb ∧ w0.heap.size ≤ k ∧ (U, j % kd.sz U) ∉ prot2
structure EP (sh : Sh) (B T rb : Nat) (w0 : World) (mb fb0 N : Nat) (w : World) (n : Nat) (κ : Nat → Int) (fb cap : Nat) (c2 c3 : Int) (cs : List Value) (ok : Bool) : Prop where
  sl : SL sh B T rb w0 mb fb0 N w n κ fb cap c2 c3
  all : AllOK w B N cs_r08_Frame cs
  no : ok = false → ∃ ln, LI T w sh.pe rb fb n (κ n) ln
  yes : ok = true → ∃ c, cs[0]? = some (.int .i64 c) ∧ PI sh T w rb fb n (κ n) c ∧ (c = 24 → ∃ lb m cp, cs[17]? = some (.slice (some ⟨lb, 0, none⟩) (m + 1) cp) ∧ lb ≠ SBn)
theorem EP.out {cs : List Value} {ok : Bool} {N' : Nat} (h : EP sh B T rb w0 mb fb0 N w n κ fb cap c2 c3 cs ok) (hrb : sh.el 19 = .slice (some ⟨rb, 0, none⟩) T cr) (hN : N ≤ N') (hw' : WT kd.sig B N' w') (g : Eff (Out w0 mb fb) w w') : EP sh B T rb w0 mb fb0 N' w' n κ fb cap c2 c3 cs ok := by
  obtain ⟨cur, f1, f2, f3, f4, f5, f6⟩ := h.sl.blk
  have g2 : Eff NP2 w w' := g.mono fun _ _ _ _ h => h.2.2.2
  have hnp := np2_np g2
  have K : ∀ o, o < 18 → fc w' fb n o = fc w fb n o := fun o ho => by unfold fc; rw [cell_blk (g.blk f2 fun _ _ hh => hh.1 rfl), cell_blk f2]
  refine ⟨h.sl.out hrb hN hw' g, h.all.mono g hN, fun he => ?_, fun he => ?_⟩
  · obtain ⟨ln, hl⟩ := h.no he
    exact ⟨ln, hl.keep h.sl.wt (h.sl.row (Nat.le_refl _)) hnp K fun t _ hp => hp.keep2 h.sl.ee hrb g2⟩
  · obtain ⟨c, e1, hp, e2⟩ := h.yes he
    exact ⟨c, e1, hp.keep h.sl.wt (h.sl.row (Nat.le_refl _)) hnp K fun _ t _ hp => hp.keep2 h.sl.ee hrb g2, e2⟩
theorem SL.enter {ln : Int} (h : SL sh B T rb w0 mb fb0 N w n κ fb cap c2 c3) (hrb : sh.el 19 = .slice (some ⟨rb, 0, none⟩) T cr) (hN : N + 6 ≤ 68719476736) (hF : FI T w fb n (κ n) ln) (w1 : World) (E1 : Eff (fun _ _ _ => False) w w1) (W1 : WT kd.sig B N w1) :
    Calls Tryz.prog 66 #[.pointer (some ⟨sh.pe, 0, none⟩), .pointer (some ⟨fb, n * 18, none⟩)] w1 fun e w2 => ∃ cs ok, e = .returned (.tuple #[.agg cs.toArray, .bool ok]) ∧ EP sh B T rb w0 mb fb0 (N + 1) w2 n κ fb cap c2 c3 cs ok ∧ Eff (FCh B w1 fb n) w1 w2 := by
  have h1 := h.out0 hrb (Nat.le_refl _) E1 W1
  have hF1 : FI T w1 fb n (κ n) ln := hF.keep h.wt (h.row (Nat.le_refl _)) (E1.mono fun _ _ _ _ h => h.elim) fun o _ => by
    obtain ⟨cur, f1, f2, -⟩ := h.blk
    unfold fc
    rw [cell_blk (E1.blk f2 fun _ _ h => h), cell_blk f2]
  refine (enter_any (h1.at' (by omega)) hF1 hrb).mono ?_
  rintro e w2 ⟨⟨cs, ok, rfl, hw2, ha, hE, hno, hyes⟩, h24⟩
  exact ⟨cs, ok, rfl, ⟨h1.line hrb (by omega) hw2 hE fun hc => (h24 (by rw [hc]; omega)).mono fun _ _ _ _ h => h.elim, ha, hno, hyes⟩, hE⟩
structure E3 (sh : Sh) (B T rb : Nat) (w0 : World) (mb fb0 N : Nat) (w : World) (n : Nat) (κ : Nat → Int) (fb cap : Nat) (c2 c3 : Int) (cs : List Value) (ok : Bool) (xb : Nat) : Prop where
  ep : EP sh B T rb w0 mb fb0 N w n κ fb cap c2 c3 cs ok
  box : w.heap[xb]? = some (.cells cs.toArray FRT (0, 0))
  nf : xb ≠ fb
  new : w0.heap.size ≤ xb
theorem box_out {xb i : Nat} {v : Value} {c : Array Value} (hb : w.heap[xb]? = some (.cells c FRT (0, 0))) (hf : xb ≠ fb) (hn : w0.heap.size ≤ xb) (hm : mb < w0.heap.size) : Eff (Out w0 mb fb) w (w.setCell ⟨xb, i, none⟩ v) := by
  refine (Eff.refl _ w).setT hb (.inl ⟨hf, by omega, hn, ?_⟩)
  have : ∀ q, (FRT, q) ∉ prot2 := fun q hq => by simp [prot2, prot, FRT] at hq
  exact this _
theorem E3.mk' {cs : List Value} {ok : Bool} {xb : Nat} (h : EP sh B T rb w0 mb fb0 N w n κ fb cap c2 c3 cs ok) (hrb : sh.el 19 = .slice (some ⟨rb, 0, none⟩) T cr) (hb : w.heap[xb]? = some (.cells zeroF FRT (0, 0))) (hf : xb ≠ fb) (hn : w0.heap.size ≤ xb) (hB : B ≤ w0.heap.size) : E3 sh B T rb w0 mb fb0 N (w.setCells xb 0 cs) n κ fb cap c2 c3 cs ok xb := by
  have hl : cs.length = 18 := by have := h.all.len; rw [← this]; rfl
  have hm := h.sl.mbl
  have g : Eff (Out w0 mb fb) w (w.setCells xb 0 cs) := by
    refine Eff.setsT cs 0 w zeroF (Eff.refl _ _) hb fun j hj => .inl ⟨hf, by omega, hn, ?_⟩
    have : ∀ q, (FRT, q) ∉ prot2 := fun q hq => by simp [prot2, prot, FRT] at hq
    exact this _
  have hw' : WT kd.sig B N (w.setCells xb 0 cs) := WT.sets kF cs cs_r08_Frame 0 w zeroF h.sl.wt hb h.all fun j k hk => by
    have : j < 18 := (List.getElem?_eq_some_iff.1 hk).1
    rw [Nat.zero_add, show cs_r08_Frame.length = 18 from rfl, Nat.mod_eq_of_lt this]; exact hk
  exact ⟨h.out hrb (Nat.le_refl _) hw' g, (stored_setCells w xb cs).2 _ _ hb hl.symm, hf, hn⟩
theorem E3.line1 {cs : List Value} {xb : Nat} (h : E3 sh B T rb w0 mb fb0 N w n κ fb cap c2 c3 cs true xb) (hrb : sh.el 19 = .slice (some ⟨rb, 0, none⟩) T cr) : E3 sh B T rb w0 mb fb0 N (w.setCell ⟨xb, 1, none⟩ (.int .i64 1)) n κ fb cap c2 c3 (cs.set 1 (.int .i64 1)) true xb := by
  have hB : B ≤ xb := Nat.le_trans (by obtain ⟨cur, f1, f2, -⟩ := h.ep.sl.blk; have := h.ep.sl.mbl; have := h.ep.sl.bm; omega) h.new
  have g := box_out (w := w) (fb := fb) (mb := mb) (i := 1) (v := .int .i64 1) h.box h.nf h.new h.ep.sl.mbl
  have hw' := h.ep.sl.wt.set h.box kF (i := 1) (ck := .int .i64) rfl ⟨1, rfl, i64_in (by omega)⟩
  have h2 := h.ep.out hrb (Nat.le_refl _) hw' g
  have hl : cs.length = 18 := by have := h.ep.all.len; rw [← this]; rfl
  refine ⟨⟨h2.sl, AllOK.of_get (by simp [hl]) fun i v hv => ?_, (fun hx => by cases hx), fun _ => ?_⟩, by rw [blk_setCell h.box]; simp, h.nf, h.new⟩
  · rw [List.getElem?_set] at hv
    split at hv
    · rename_i e
      subst e
      split at hv
      · cases hv
        exact ⟨.int .i64, rfl, 1, rfl, i64_in (by omega)⟩
      · cases hv
    · obtain ⟨ck, e1, o⟩ := h2.all.get hv
      exact ⟨ck, e1, o⟩
  · obtain ⟨c, e1, hp, e2⟩ := h2.yes rfl
    refine ⟨c, by rw [List.getElem?_set, if_neg (by omega)]; exact e1, hp, fun hc => ?_⟩
    obtain ⟨lb, m, cp, e3, e4⟩ := e2 hc
    exact ⟨lb, m, cp, by rw [List.getElem?_set, if_neg (by omega)]; exact e3, e4⟩
structure LP (sh : Sh) (B T rb : Nat) (w0 : World) (mb fb0 N : Nat) (w : World) (n : Nat) (κ : Nat → Int) (fb cap : Nat) (c2 c3 : Int) (d : Bool) (c x : Int) : Prop where
  sl : SL sh B T rb w0 mb fb0 N w n κ fb cap c2 c3
  ic : inK .i64 c
  ix : inK .i64 x
  stay : d = false → κ n ≠ 12 ∧ ∃ ln, FI T w fb n (κ n) ln
  val : κ n = 12 → c = 3 ∨ (0 ≤ x ∧ x < T)
theorem LP.out {d : Bool} {c x : Int} {N' : Nat} (h : LP sh B T rb w0 mb fb0 N w n κ fb cap c2 c3 d c x) (hrb : sh.el 19 = .slice (some ⟨rb, 0, none⟩) T cr) (hN : N ≤ N') (hw' : WT kd.sig B N' w') (g : Eff (Out w0 mb fb) w w') : LP sh B T rb w0 mb fb0 N' w' n κ fb cap c2 c3 d c x := by
  obtain ⟨cur, f1, f2, f3, f4, f5, f6⟩ := h.sl.blk
  have g2 : Eff NP2 w w' := g.mono fun _ _ _ _ h => h.2.2.2
  refine ⟨h.sl.out hrb hN hw' g, h.ic, h.ix, fun he => ?_, h.val⟩
  obtain ⟨e1, ln, hl⟩ := h.stay he
  exact ⟨e1, ln, hl.keep h.sl.wt (h.sl.row (Nat.le_refl _)) (np2_np g2) fun o ho => by unfold fc; rw [cell_blk (g.blk f2 fun _ _ hh => hh.1 rfl), cell_blk f2]⟩
theorem SL.leaf {ln : Int} (h : SL sh B T rb w0 mb fb0 N w n κ fb cap c2 c3) (hrb : sh.el 19 = .slice (some ⟨rb, 0, none⟩) T cr) (hN : N + 6 ≤ 68719476736) (hL : LI T w sh.pe rb fb n (κ n) ln) (w1 : World) (E1 : Eff (fun _ _ _ => False) w w1) (W1 : WT kd.sig B N w1) :
    Calls Tryz.prog 67 #[.pointer (some ⟨sh.pe, 0, none⟩), .pointer (some ⟨fb, n * 18, none⟩)] w1 fun e w2 => ∃ d c x, e = .returned (.agg #[.bool d, .int .i64 c, .int .i64 x]) ∧ LP sh B T rb w0 mb fb0 (N + 2) w2 n κ fb cap c2 c3 d c x ∧ Eff (FCh B w1 fb n) w1 w2 := by
  have h1 := h.out0 hrb (Nat.le_refl _) E1 W1
  obtain ⟨cur, f1, f2, -⟩ := h.blk
  have hL1 : LI T w1 sh.pe rb fb n (κ n) ln := hL.keep h.wt (h.row (Nat.le_refl _)) (E1.mono fun _ _ _ _ h => h.elim) (fun o _ => by
    unfold fc
    rw [cell_blk (E1.blk f2 fun _ _ h => h), cell_blk f2]) fun t _ hp => hp.keep2 h.ee hrb (E1.mono fun _ _ _ _ h => h.elim)
  by_cases h12 : κ n = 12
  · refine (leaf12_ty (h1.at' (by omega)) (by rw [← h12]; exact hL1.c0)).mono ?_
    rintro e w2 ⟨c, x, rfl, ic, ix, hw2, hM, hv⟩
    have hF : Eff (FCh B w1 fb n) w1 w2 := hM.mono fun k U j hk hc => by
      rcases hc with hc | hc
      · exact .inl hc
      · refine .inr (.inr ?_)
        have := List.all_eq_true.1 (show effFr effM = true by decide) _ hc.1
        simp only [Bool.and_eq_true, decide_eq_true_eq, Bool.not_eq_true'] at this
        refine ⟨this.1, fun hx => ?_, hc.2⟩
        have h2 := List.contains_iff_mem.2 hx
        rw [this.2] at h2
        cases h2
    have h2 : Eff NP2 w1 w2 := hM.mono fun k U j hk hc => by
      rcases hc with hc | hc
      · omega
      · have h1 : ∀ q ∈ prot2, EI.ty q.1 q.2 ∉ effM := by decide
        exact fun hx => h1 _ hx hc.1
    exact ⟨true, c, x, rfl, ⟨h1.line hrb (by omega) hw2 hF fun _ => h2, ic, ix, (fun hx => by cases hx), fun _ => hv⟩, hF⟩
  · refine (leaf_any (cr := cr) (h1.at' (by omega)) hL1 fun _ => hrb).mono ?_
    rintro e w2 ⟨v, rfl, hw2, hE, d, c, x, ⟨rfl, ic, ix⟩, hd⟩
    refine ⟨d, c, x, rfl, ⟨h1.line hrb (by omega) hw2 hE fun hc => absurd hc h12, ic, ix, fun hx => ?_, fun hc => absurd hc h12⟩, hE⟩
    obtain ⟨ln', hl⟩ := hd hx
    exact ⟨h12, ln', hl⟩
theorem SL.back {k c x : Int} (h : SL sh B T rb w0 mb fb0 N w n κ fb cap c2 c3) (hrb : sh.el 19 = .slice (some ⟨rb, 0, none⟩) T cr) (hN : N + 6 ≤ 68719476736) (hP : PI sh T w rb fb n (κ n) k) (ic : inK .i64 c) (ix : inK .i64 x) (hv : k = 12 → c = 3 ∨ (0 ≤ x ∧ x < T)) (w1 : World) (E1 : Eff (fun _ _ _ => False) w w1) (W1 : WT kd.sig B N w1) :
    Calls Tryz.prog 68 #[.pointer (some ⟨sh.pe, 0, none⟩), .pointer (some ⟨fb, n * 18, none⟩), .int .i64 c, .int .i64 x] w1 fun e w2 => ∃ d c' x', e = .returned (.agg #[.bool d, .int .i64 c', .int .i64 x']) ∧ LP sh B T rb w0 mb fb0 (N + 5) w2 n κ fb cap c2 c3 d c' x' ∧ Eff (FCh B w1 fb n) w1 w2 := by
  have h1 := h.out0 hrb (Nat.le_refl _) E1 W1
  obtain ⟨cur, f1, f2, -⟩ := h.blk
  have hP1 : PI sh T w1 rb fb n (κ n) k := hP.keep h.wt (h.row (Nat.le_refl _)) (E1.mono fun _ _ _ _ h => h.elim) (fun o _ => by
    unfold fc
    rw [cell_blk (E1.blk f2 fun _ _ h => h), cell_blk f2]) fun _ t _ hp => hp.keep2 h.ee hrb (E1.mono fun _ _ _ _ h => h.elim)
  have h12 : κ n ≠ 12 := fun hc => by
    have := hP.rk
    rw [hc] at this
    exact absurd this (by simp [rank])
  refine (back_any (h1.at' (by omega)) hP1 hrb ic ix hv).mono ?_
  rintro e w2 ⟨v, rfl, hw2, hE, d, c', x', ⟨rfl, ic', ix'⟩, hd⟩
  refine ⟨d, c', x', rfl, ⟨h1.line hrb (by omega) hw2 hE fun hc => absurd hc h12, ic', ix', fun hx => ?_, fun hc => absurd hc h12⟩, hE⟩
  obtain ⟨ln', hl⟩ := hd hx
  exact ⟨h12, ln', hl⟩
end Go.Proofs.YtncnepmgmphanaaGreatDoor

namespace Go.Proofs.YtncnepmgmphanaaGreatDoor
open Go.RowKit
variable [Inhabited SBW] {B N : Nat}
theorem frame_info : ∃ i z, Tryz.prog.info? 118 = some i ∧ i.zero = some z ∧ z.cells = zeroF ∧ i.size = 18 ∧ i.bytes ≤ 1024 := by
  have h1 : (Tryz.prog.info? 118).map (fun i => (i.zero.map (·.cells), i.size, decide (i.bytes ≤ 1024))) = some (some zeroF, 18, true) := by kernel_rfl
  cases hi : Tryz.prog.info? 118 with
  | none => rw [hi] at h1; cases h1
  | some i =>
    rw [hi] at h1
    simp only [Option.map_some, Option.some.injEq, Prod.mk.injEq, decide_eq_true_eq, Option.map_eq_some_iff] at h1
    obtain ⟨⟨z, hz, hc⟩, h2, h3⟩ := h1
    exact ⟨i, z, rfl, hz, hc, h2, h3⟩
theorem frames_under : Tryz.prog.underlying 139 = some (.slice 118) := by kernel_rfl
theorem fillF18 (a0 a1 a2 a3 a4 a5 a6 a7 a8 a9 a10 a11 a12 a13 a14 a15 a16 a17 : Value) : Instr.fill (fun i => some (i * 18, 18)) zeroF [(0, .agg #[a0, a1, a2, a3, a4, a5, a6, a7, a8, a9, a10, a11, a12, a13, a14, a15, a16, a17])] = some #[a0, a1, a2, a3, a4, a5, a6, a7, a8, a9, a10, a11, a12, a13, a14, a15, a16, a17] := by kernel_rfl
theorem fillF : ∀ {cs : List Value}, cs.length = 18 → Instr.fill (fun i => some (i * 18, 18)) zeroF [(0, .agg cs.toArray)] = some cs.toArray
  | [a0, a1, a2, a3, a4, a5, a6, a7, a8, a9, a10, a11, a12, a13, a14, a15, a16, a17], _ => fillF18 a0 a1 a2 a3 a4 a5 a6 a7 a8 a9 a10 a11 a12 a13 a14 a15 a16 a17
theorem wp_build1 {op : Oper} {a : Act} {w : World} {K : Act → World → Prop} {Q : Exit → Act → World → Prop} {x : Operand} {cs : List Value} (ho : op.op = .buildSlice 139 1 #[(0, x)]) (hx : a.eval x = .agg cs.toArray) (hl : cs.length = 18)
    (h : K (a.put op.dst (.slice (some ⟨w.heap.size, 0, none⟩) 1 1)) (w.alloc (.cells cs.toArray 118))) : op.wp Tryz.prog a w K Q := by
  obtain ⟨i, z, hi, hz, hzc, hs, hb⟩ := frame_info
  have hrun : (execOp a.eval op).run Tryz.prog w = .ok (.value (.slice (some ⟨w.heap.size, 0, none⟩) 1 1)) (w.alloc (.cells cs.toArray 118)) := by
    have hf := fillF hl
    have hrg : (Array.range 18).map (fun k => zeroF[k % zeroF.size]!) = zeroF := by kernel_rfl
    unfold execOp
    simp only [ho]
    simp [Instr.buildSlice, run_underlying frames_under, sizeOf, typeInfo, hi, hs, zeroValue, hz, newRow, hzc, hx]
    rw [hrg, hf]
    rfl
  unfold Oper.wp
  rw [hrun]
  exact h
theorem wp_append1 {op : Oper} {a : Act} {w : World} {K : Act → World → Prop} {Q : Exit → Act → World → Prop} {s x : Operand} {cs : List Value} {g n cap b : Nat} {cur : Array Value} (ho : op.op = .call { callee := .builtin .append, args := #[s, x], argTypes := #[139, 139] })
    (hs : a.eval s = .slice (some ⟨g, 0, none⟩) n cap) (hx : a.eval x = .slice (some ⟨b, 0, none⟩) 1 1) (hw : WT kd.sig B N w) (hBw : B ≤ w.heap.size) (hg0 : B ≤ g) (hg : w.heap[g]? = some (.cells cur FRT (0, 0))) (hnc : n ≤ cap) (hcm : cap ≤ maxLen) (hcs : cur.size = cap * 18) (hn : AllOK w B N cs_r08_Frame cs) (hb : w.heap[b]? = some (.cells cs.toArray FRT (0, 0))) (hN : n < 68719476736)
    (h : ∀ g' cap' w', AppTold kd FRT 18 B N w g n cs g' cap' w' → K (a.put op.dst (.slice (some ⟨g', 0, none⟩) (n + 1) cap')) w') : op.wp Tryz.prog a w K Q := by
  obtain ⟨i, z, hi, hz, hzc, hsz, hby⟩ := frame_info
  have hl : cs.length = 18 := by rw [← hn.len]; rfl
  obtain ⟨g', cap', w', hr, A⟩ := run_append_told (P := Tryz.prog) (kd := kd) (L := cs_r08_Frame) (ty := op.type) (a := ⟨b, 0, none⟩) (c := 1) (news := cs) frames_under hi hz hsz hby (by rw [hzc]; decide) (by decide) kF hw hBw hg0 hg hnc hcm hcs (RowsOK.one hn) hl (fun j u hj => by rw [Go.WideShapes.add_plain, Nat.zero_add, cell_blk hb]; simpa using hj) hN
  unfold Oper.wp execOp
  simp only [ho, resolve, invoke, builtin, Sem.run_bind, Sem.run_pure, Result.andThen_ok, List.map_toArray, List.map_cons, List.map_nil, hs, hx, hr]
  exact h g' cap' w' A
variable {sh : Sh} {T : Nat} {rb cr mb fb0 n fb cap : Nat} {w0 : World} {κ : Nat → Int} {c2 c3 : Int}
abbrev RT : Nat := 146
theorem kR : kd.sig RT = some cs_r08_result := by kernel_rfl
theorem res_np {w w' : World} {fb r k : Nat} {c : Array Value} (hb : w.heap[k]? = some (.cells c RT (0, 0))) (h : Eff (FCh B w fb r) w w') (hF : ∃ f, w.heap[fb]? = some (.cells f FRT (0, 0))) : w'.heap[k]? = some (.cells c RT (0, 0)) := by
  obtain ⟨c', h1, h2, h3⟩ := h.cells _ _ _ _ hb
  rw [h1]
  congr 2
  refine blk_eq fun j => h3 j ?_
  have hk := lt_of_blk hb
  obtain ⟨f, hf⟩ := hF
  rintro (hx | ⟨rfl, -⟩ | ⟨-, hx⟩)
  · omega
  · rw [hf] at hb; cases hb
  · have szR : kd.sz RT = 3 := by kernel_rfl
    have hx := hx.1
    rw [szR] at hx
    have h4 : j % 3 = 0 ∨ j % 3 = 1 ∨ j % 3 = 2 := by omega
    rcases h4 with e | e | e <;> rw [e] at hx <;> exact hx (by decide)
theorem LP.box {w : World} {d : Bool} {c x : Int} {tb : Nat} {v0 v1 v2 : Value} (h : LP sh B T rb w0 mb fb0 N w n κ fb cap c2 c3 d c x) (hrb : sh.el 19 = .slice (some ⟨rb, 0, none⟩) T cr) (hb : w.heap[tb]? = some (.cells #[v0, v1, v2] RT (0, 0))) (hn : w0.heap.size ≤ tb) :
    LP sh B T rb w0 mb fb0 N (resW w tb d c x) n κ fb cap c2 c3 d c x ∧ (resW w tb d c x).heap[tb]? = some (.cells #[.bool d, .int .i64 c, .int .i64 x] RT (0, 0)) := by
  have g1 := blk_setCell hb 0 (.bool d)
  have g2 := blk_setCell g1 1 (.int .i64 c)
  have g3 := blk_setCell g2 2 (.int .i64 x)
  obtain ⟨cur, -, f2, -⟩ := h.sl.blk
  have hm := h.sl.mbl
  have hf : tb ≠ fb := fun e => by
    subst e
    rw [f2] at hb
    cases hb
  have ho : ∀ j, Out w0 mb fb tb RT j := fun j => ⟨hf, by omega, hn, by
    have : ∀ q, (RT, q) ∉ prot2 := fun q hq => by simp [prot2, prot, RT] at hq
    exact this _⟩
  have hE : Eff (Out w0 mb fb) w (resW w tb d c x) := (((Eff.refl _ w).setT hb (.inl (ho 0))).setT g1 (.inl (ho 1))).setT g2 (.inl (ho 2))
  have hw : WT kd.sig B N (resW w tb d c x) := ((h.sl.wt.set hb kR (i := 0) (ck := .bool) rfl ⟨_, rfl⟩).set g1 kR (i := 1) (ck := .int .i64) rfl ⟨_, rfl, h.ic⟩).set g2 kR (i := 2) (ck := .int .i64) rfl ⟨_, rfl, h.ix⟩
  refine ⟨h.out hrb (Nat.le_refl _) hw hE, ?_⟩
  unfold resW
  rw [g3]
  simp
theorem res0_ok (w : World) : AllOK w B N cs_r08_result [.bool false, .int .i64 0, .int .i64 0] := ⟨⟨_, rfl⟩, ⟨0, rfl, i64_in (by omega)⟩, ⟨0, rfl, i64_in (by omega)⟩, trivial⟩
def StepR (sh : Sh) (T rb B N' : Nat) (w : World) (mb fb : Nat) (e : Ending) (w' : World) : Prop :=
  ∃ b fb', e = .returned (.bool b) ∧ WT kd.sig B N' w' ∧ Eff (SCh B w mb fb) w w' ∧ MI sh T rb w' mb fb' ∧ (fb' = fb ∨ w.heap.size ≤ fb') ∧ ∃ f, w'.heap[fb']? = some (.cells f FRT (0, 0))
theorem over_mi {w : World} {a c d : Value} {v0 v1 v2 v3 : Value} (h : w.heap[mb]? = some (.cells #[v0, v1, v2, v3] MT (0, 0))) : MI sh T rb ((((w.setCell ⟨mb, 0, none⟩ a).setCell ⟨mb, 1, none⟩ (.bool true)).setCell ⟨mb, 2, none⟩ c).setCell ⟨mb, 3, none⟩ d) mb fb := by
  refine .inl ⟨a, c, d, ?_⟩
  have e := blk_setCell (blk_setCell (blk_setCell (blk_setCell h 0 a) 1 (.bool true)) 2 c) 3 d
  simpa only [List.setIfInBounds_toArray, List.set_cons_zero, List.set_cons_succ] using e
theorem over_fin {w : World} {c x : Int} {N' : Nat} (q : Nat) (h : LP sh B T rb w0 mb fb0 N w 0 κ fb cap c2 c3 true c x) (hN : N ≤ N') : StepR sh T rb B N' w0 mb fb0 (.returned (.bool true)) (((((w.setCell ⟨mb, 0, none⟩ (.slice (some ⟨fb, 0, none⟩) 0 cap)).drewN q).setCell ⟨mb, 1, none⟩ (.bool true)).setCell ⟨mb, 2, none⟩ (.int .i64 c)).setCell ⟨mb, 3, none⟩ (.int .i64 x)) := by
  obtain ⟨cur, f1, f2, f3, f4, f5, f6⟩ := h.sl.blk
  have m0 := h.sl.mac
  unfold mcells at m0
  have m1 := blk_setCell m0 0 (.slice (some ⟨fb, 0, none⟩) 0 cap)
  have m2 : ((w.setCell ⟨mb, 0, none⟩ (.slice (some ⟨fb, 0, none⟩) 0 cap)).drewN q).heap[mb]? = _ := m1
  have m3 := blk_setCell m2 1 (.bool true)
  have m4 := blk_setCell m3 2 (.int .i64 c)
  have w1 := (h.sl.wt.set h.sl.mac kM (i := 0) (ck := .sl FRT 18) rfl (slF_ok (m := 0) (Nat.zero_le _) f1 f2 (Nat.zero_le _) f4 f5)).drewN q
  refine ⟨true, fb, rfl, ((((w1.set m2 kM (i := 1) (ck := .bool) rfl ⟨_, rfl⟩).set m3 kM (i := 2) (ck := .int .i64) rfl ⟨_, rfl, h.ic⟩).set m4 kM (i := 3) (ck := .int .i64) rfl ⟨_, rfl, h.ix⟩)).mono hN, ?_, ?_, h.sl.fbk, ?_⟩
  · exact (((((h.sl.eff.trans (mset_s h.sl.mac)).drewN q).trans (mset_s m2)).trans (mset_s m3)).trans (mset_s m4))
  · exact over_mi (w := w.drewN q) m0
  · have hne := ne_mf h.sl.mac f2
    refine ⟨cur, ?_⟩
    rw [blk_setCell_ne (Ne.symm hne), blk_setCell_ne (Ne.symm hne), blk_setCell_ne (Ne.symm hne)]
    show (w.setCell _ _).heap[fb]? = _
    rw [blk_setCell_ne (Ne.symm hne)]
    exact f2
theorem stay_fin {w : World} {c x : Int} {N' : Nat} (h : LP sh B T rb w0 mb fb0 N w n κ fb cap c2 c3 false c x) (hN : N ≤ N') : StepR sh T rb B N' w0 mb fb0 (.returned (.bool false)) w := by
  obtain ⟨h12, hl⟩ := h.stay rfl
  obtain ⟨cur, f1, f2, -⟩ := h.sl.blk
  exact ⟨false, fb, rfl, h.sl.wt.mono hN, h.sl.eff, .inr ⟨n, κ, cap, c2, c3, h.sl.mr h12 hl⟩, h.sl.fbk, cur, f2⟩
end Go.Proofs.YtncnepmgmphanaaGreatDoor
