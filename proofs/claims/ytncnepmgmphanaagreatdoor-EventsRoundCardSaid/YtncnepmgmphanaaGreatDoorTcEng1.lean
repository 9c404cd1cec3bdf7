/- The reference engine between two entries: what it is, and that it stands. Plain; no condition beside those named. -/
import Derived.Test.YtncnepmgmphanaaGreatDoorMg21
set_option linter.unusedVariables false
set_option linter.unusedSimpArgs false
set_option linter.unusedSectionVars false
namespace Go.Proofs.YtncnepmgmphanaaGreatDoor
open Go.RowKit
abbrev ET : Nat := 70
abbrev PT : Nat := 113
abbrev IT : Nat := 3
section
variable [Inhabited SBW] {sh : Sh} {B N T : Nat} {w w' : World} {rb cr mb fb : Nat}
abbrev DCh (pe xb : Nat) (k : Nat) (U : TypeId) (j : Nat) : Prop := (k = SBn ∧ U = IT) ∨ (k = xb ∧ U = ET) ∨ (k = pe ∧ (j = 17 ∨ j = 18))
theorem EE.keepD {xb : Nat} (h : EE sh B N T w) (hw : WT kd.sig B N w) {N' : Nat} (hN : N ≤ N') (g : Eff (DCh sh.pe xb) w w') : EE sh B N' T w' := by
  obtain ⟨e, h1, h2, h3⟩ := h.blk
  have pc : ∀ q, q ≠ 17 → q ≠ 18 → w'.cell? ⟨sh.pe, q, none⟩ = w.cell? ⟨sh.pe, q, none⟩ := fun q hq1 hq2 => by
    obtain ⟨c', k1, k2, k3⟩ := g.cells _ _ _ _ h2
    rw [cell_blk k1, cell_blk h2, k3]
    rintro (⟨-, hx⟩ | ⟨-, hx⟩ | ⟨-, hx⟩)
    · exact absurd hx (by decide)
    · exact absurd hx (by decide)
    · omega
  have hp : ProgOK w' (sh.el 9) := by
    intro pb n cap hvp i hi qb m mc hc j hj
    have o9 := h.o9
    have hpr := h.progs
    rw [hvp] at o9
    rcases sl_blk o9 with hh | ⟨b, n', c, cur, hh, k1, k2, k3, k4, k5⟩
    · cases hh
    cases hh
    have e1 : w'.cell? ⟨pb, i, none⟩ = w.cell? ⟨pb, i, none⟩ := by
      obtain ⟨c', l1, l2, l3⟩ := g.cells _ _ _ _ k2
      rw [cell_blk l1, cell_blk k2, l3]
      rintro (⟨-, hx⟩ | ⟨-, hx⟩ | ⟨rfl, -⟩)
      · exact absurd hx (by decide)
      · exact absurd hx (by decide)
      · rw [h2] at k2; cases k2
    rw [e1] at hc
    obtain ⟨a, a1, a2⟩ := hpr pb n cap hvp i hi qb m mc hc j hj
    obtain ⟨v, ev, ov⟩ := row_cell hw (T := 123) (L := [.sl 125 3]) (by kernel_rfl) k1 k2 (i := i) (j := 0) (by omega) (by show i % 1 = 0; omega) rfl
    rw [hc] at ev
    cases ev
    rcases sl_blk ov with hh | ⟨b, n', c, cur', hh, l1, l2, l3, l4, l5⟩
    · cases hh
    cases hh
    refine ⟨a, ?_, a2⟩
    rw [← a1]
    obtain ⟨c', m1, m2, m3⟩ := g.cells _ _ _ _ l2
    rw [cell_blk m1, cell_blk l2, m3]
    rintro (⟨-, hx⟩ | ⟨-, hx⟩ | ⟨rfl, -⟩)
    · exact absurd hx (by decide)
    · exact absurd hx (by decide)
    · rw [h2] at l2; cases l2
  refine ⟨fun q hq => ?_, h.blk.mono g, (pc 3 (by omega) (by omega)).trans h.tasks, h.recs, h.small, h.workers, h.o9.mono g hN, h.o10.mono g hN, h.o11.mono g hN, h.o19.mono g hN, hp, Nat.lt_of_lt_of_le h.sbl g.size⟩
  have hq' : q = 0 ∨ q = 9 ∨ q = 10 ∨ q = 11 ∨ q = 19 := by simpa [evE] using hq
  rw [pc q (by omega) (by omega)]
  exact h.el q hq
theorem RL.keepD {pe xb fb r lb n cap : Nat} {t : Int} {f : Array Value} (h : RL w fb r lb n cap t) (hw : WT kd.sig B N w) (hrow : RowIn kd w B FRT fb r) (hp : ∃ c, w.heap[pe]? = some (.cells c 66 (0, 0))) (g : Eff (DCh pe xb) w w') (K : ∀ o, fc w' fb r o = fc w fb r o) : RL w' fb r lb n cap t := by
  refine ⟨(K 17).trans h.l, ?_, h.ne⟩
  obtain ⟨e, h2⟩ := hp
  rcases sl_blk (fc_sl hw hrow h.l) with hh | ⟨b, n', c, cur, hh, k1, k2, k3, k4, k5⟩
  · cases hh
  cases hh
  obtain ⟨c', l1, l2, l3⟩ := g.cells _ _ _ _ k2
  rw [cell_blk l1, l3, ← cell_blk k2]
  · exact h.t
  rintro (⟨hx, -⟩ | ⟨-, hx⟩ | ⟨rfl, -⟩)
  · exact h.ne hx
  · exact absurd hx (by decide)
  · rw [h2] at k2; cases k2
theorem MI.keepD {pe xb : Nat} (h : MI sh T rb w mb fb) (hw : WT kd.sig B N w) (bm : B ≤ mb) (hp : ∃ c, w.heap[pe]? = some (.cells c 66 (0, 0))) (g : Eff (DCh pe xb) w w') : MI sh T rb w' mb fb := by
  have other : ∀ (b : Nat) (c : Array Value) (U : TypeId), w.heap[b]? = some (.cells c U (0, 0)) → U ≠ IT → U ≠ ET → U ≠ 66 → w'.heap[b]? = some (.cells c U (0, 0)) := fun b c U hb u1 u2 u3 => by
    obtain ⟨e, h2⟩ := hp
    obtain ⟨c', l1, l2, l3⟩ := g.cells _ _ _ _ hb
    rw [l1]
    congr 2
    refine blk_eq fun j => l3 j ?_
    rintro (⟨-, hx⟩ | ⟨-, hx⟩ | ⟨rfl, -⟩)
    · exact u1 hx
    · exact u2 hx
    · rw [h2] at hb; cases hb; exact u3 rfl
  rcases h with ⟨v0, v2, v3, hx⟩ | ⟨n, κ, cap, c2, c3, h⟩
  · exact .inl ⟨v0, v2, v3, other _ _ _ hx (by decide) (by decide) (by decide)⟩
  · refine .inr ⟨n, κ, cap, c2, c3, ?_⟩
    obtain ⟨v, e, o⟩ := row_cell hw kM bm h.mac (i := 0) (j := 0) (by simp [mcells]) rfl rfl
    rw [cell_blk h.mac] at e
    cases e
    obtain ⟨n', xs, hn, hl, ⟨hx, -⟩ | ⟨b, cp, cur, hx, f1, f2, f3, f4, f5, f6⟩⟩ := o
    · cases hx
    cases hx
    have row : ∀ i, i ≤ n → RowIn kd w B FRT fb i := fun i hi => ⟨cur, f1, f2, by rw [szF, f5]; exact Nat.mul_le_mul_right 18 (by omega)⟩
    have fb' := other _ _ _ f2 (by decide) (by decide) (by decide)
    have K : ∀ i o, fc w' fb i o = fc w fb i o := fun i o => by unfold fc; rw [cell_blk fb', cell_blk f2]
    have rlk : ∀ {i lb m cp t}, i ≤ n → RL w fb i lb m cp t → RL w' fb i lb m cp t := fun hi h => h.keepD (f := #[]) hw (row _ hi) hp g (K _)
    refine ⟨other _ _ _ h.mac (by decide) (by decide) (by decide), fun i hi => ?_, h.no12, h.lo, h.hi, ?_⟩
    · have hP := h.pairs i hi
      refine ⟨(K _ _).trans hP.c0, hP.lo, hP.hi, hP.rk, hP.clo, hP.chi, fun hk => ?_, fun hk => ?_⟩
      · obtain ⟨lb, m, cp, t, ln, rl, h0, h1, h2, h3⟩ := hP.run hk
        exact ⟨lb, m, cp, t, ln, rlk (by omega) rl, h0, h1, (K _ _).trans h2, h3.imp_right fun ⟨_, e2, _⟩ => absurd e2 (h.no12 i hi)⟩
      · obtain ⟨i', ln, h1, h2, h3, h4⟩ := hP.cli hk
        exact ⟨i', ln, (K _ _).trans h1, h2, (K _ _).trans h3, h4⟩
    · obtain ⟨ln, hF⟩ := h.last
      refine ⟨ln, (K _ _).trans hF.c0, (K _ _).trans hF.c1, hF.lo, hF.hi, fun hk => ?_, fun hk => ?_⟩
      · obtain ⟨lb, m, cp, t, rl, hh⟩ := hF.run hk
        exact ⟨lb, m, cp, t, rlk (Nat.le_refl _) rl, hh⟩
      · obtain ⟨i, hi, h0⟩ := hF.cli hk
        exact ⟨i, (K _ _).trans hi, h0⟩
end
section
variable {sh : Sh} {B N T : Nat} {w w' : World} {rb cr mb fb : Nat}
abbrev sbI (sb : Nat) : Inhabited SBW := ⟨⟨sb⟩⟩
theorem cell_lt {b i : Nat} {v : Value} (h : w.cell? ⟨b, i, none⟩ = some v) : b < w.heap.size := by
  unfold World.cell? at h
  split at h
  · rename_i hh; exact lt_of_blk hh
  · cases h
theorem MI.swap {s s' : Nat} (h : @MI (sbI s) sh T rb w mb fb) (hs : w.heap.size ≤ s') : @MI (sbI s') sh T rb w mb fb := by
  letI : Inhabited SBW := sbI s
  have rlk : ∀ {i lb m cp t}, @RL (sbI s) w fb i lb m cp t → @RL (sbI s') w fb i lb m cp t := fun h => by
    refine @RL.mk (sbI s') _ _ _ _ _ _ _ h.l h.t ?_
    have := cell_lt h.t
    show _ ≠ s'
    omega
  rcases h with hx | ⟨n, κ, cap, c2, c3, h⟩
  · exact .inl hx
  · refine .inr ⟨n, κ, cap, c2, c3, @MR.mk (sbI s') _ _ _ _ _ _ _ _ _ _ _ h.mac (fun i hi => ?_) h.no12 h.lo h.hi ?_⟩
    · have hP := h.pairs i hi
      refine @PI.mk (sbI s') _ _ _ _ _ _ _ _ hP.c0 hP.lo hP.hi hP.rk hP.clo hP.chi (fun hk => ?_) hP.cli
      obtain ⟨lb, m, cp, t, ln, rl, hh⟩ := hP.run hk
      exact ⟨lb, m, cp, t, ln, rlk rl, hh⟩
    · obtain ⟨ln, hF⟩ := h.last
      refine ⟨ln, @FI.mk (sbI s') _ _ _ _ _ _ hF.c0 hF.c1 hF.lo hF.hi (fun hk => ?_) hF.cli⟩
      obtain ⟨lb, m, cp, t, rl, hh⟩ := hF.run hk
      exact ⟨lb, m, cp, t, rlk rl, hh⟩
theorem EE.swap {s s' : Nat} (h : @EE (sbI s) sh B N T w) (hs : s' < w.heap.size) : @EE (sbI s') sh B N T w := by
  letI : Inhabited SBW := sbI s
  exact @EE.mk (sbI s') _ _ _ _ _ h.el h.blk h.tasks h.recs h.small h.workers h.o9 h.o10 h.o11 h.o19 h.progs hs
end
end Go.Proofs.YtncnepmgmphanaaGreatDoor
