/- Choose, at the first line: every case, by types. No condition beside those named. -/
import Derived.Test.YtncnepmgmphanaaGreatDoorMg09
import Derived.Test.YtncnepmgmphanaaGreatDoorMg04
set_option linter.unusedVariables false
set_option linter.unusedSimpArgs false
set_option linter.unusedSectionVars false
namespace Go.Proofs.YtncnepmgmphanaaGreatDoor
open Go.RowKit
variable {B N : Nat}
structure ChPost (B N : Nat) (w w' : World) (fb o : Nat) (ln : Int) : Prop where
  wt : WT kd.sig B N w'
  eff : Eff (fun k T j => k = fb ∧ (j = o + 1 ∨ j = o + 10)) w w'
  ln : w'.cell? ⟨fb, o + 1, none⟩ = some (.int .i64 ln)
theorem chPost {w w1 : World} {fb r : Nat} {ln : Int} {f : Array Value} (h1 : WT kd.sig B N w1) (h2 : Eff (fun _ _ _ => False) w w1) (hF : w.heap[fb]? = some (.cells f 118 (0, 0))) (hsz : (r + 1) * 18 ≤ f.size) (hl : inK .i64 ln) : ChPost B N w (w1.setCell ⟨fb, r * 18 + 1, none⟩ (.int .i64 ln)) fb (r * 18) ln := by
  have hT : kd.sig 118 = some cs_r08_Frame := by kernel_rfl
  have hF1 := h2.blk hF (fun _ _ h => h)
  have hb1 := blk_setCell hF1 (r * 18 + 1) (.int .i64 ln)
  have m1 : (r * 18 + 1) % cs_r08_Frame.length = 1 := by show (r * 18 + 1) % 18 = 1; omega
  refine ⟨h1.set hF1 hT (i := r * 18 + 1) (ck := .int .i64) (by rw [m1]; rfl) ⟨ln, rfl, hl⟩, (h2.mono fun _ _ _ _ h => h.elim).setT hF1 (.inl ⟨rfl, .inl rfl⟩), ?_⟩
  rw [cell_blk hb1, Array.getElem?_setIfInBounds_self_of_lt (by omega)]
theorem ChPost.trans {w w' w2 : World} {fb o : Nat} {ln : Int} (h : ChPost B N w w' fb o ln) (h1 : WT kd.sig B N w2) (h2 : Eff (fun _ _ _ => False) w' w2) : ChPost B N w w2 fb o ln :=
  ⟨h1, h.eff.trans (h2.mono fun _ _ _ _ h => h.elim), h2.cell h.ln fun _ h => h⟩
theorem ChPost.set10 {w w' : World} {fb r : Nat} {ln x : Int} {f : Array Value} (h : ChPost B N w w' fb (r * 18) ln) (hF : w'.heap[fb]? = some (.cells f 118 (0, 0))) (hx : inK .i64 x) : ChPost B N w (w'.setCell ⟨fb, r * 18 + 10, none⟩ (.int .i64 x)) fb (r * 18) ln := by
  have hT : kd.sig 118 = some cs_r08_Frame := by kernel_rfl
  have hb1 := blk_setCell hF (r * 18 + 10) (.int .i64 x)
  have m1 : (r * 18 + 10) % cs_r08_Frame.length = 10 := by show (r * 18 + 10) % 18 = 10; omega
  refine ⟨h.wt.set hF hT (i := r * 18 + 10) (ck := .int .i64) (by rw [m1]; rfl) ⟨x, rfl, hx⟩, h.eff.setT hF (.inl ⟨rfl, .inr rfl⟩), ?_⟩
  rw [cell_blk hb1, Array.getElem?_setIfInBounds_ne (by omega), ← cell_blk hF]
  exact h.ln
def PcIn (w : World) (pe rb t : Nat) : Prop := ∃ (z qb m mc : Nat) (p : Int) (vp : Value), w.cell? ⟨rb, t * 7 + 2, none⟩ = some (.int .i64 z) ∧ w.cell? ⟨rb, t * 7, none⟩ = some (.int .i64 p) ∧ w.cell? ⟨pe, 9, none⟩ = some vp ∧ IsProg w vp p (.slice (some ⟨qb, 0, none⟩) m mc) ∧ z < m
def ProgOK (w : World) (vp : Value) : Prop := ∀ (pb n cap : Nat), vp = .slice (some ⟨pb, 0, none⟩) n cap → ∀ i, i < n → ∀ qb m mc, w.cell? ⟨pb, i, none⟩ = some (.slice (some ⟨qb, 0, none⟩) m mc) → ∀ j, j < m → ∃ a : Int, w.cell? ⟨qb, j * 3 + 1, none⟩ = some (.int .i64 a) ∧ 0 ≤ a
theorem sl_blk {w : World} {E s : Nat} {v : Value} (h : CellOK w B N (.sl E s) v) : (v = .slice none 0 0) ∨ ∃ b n cap cur, v = .slice (some ⟨b, 0, none⟩) n cap ∧ B ≤ b ∧ w.heap[b]? = some (.cells cur E (0, 0)) ∧ n ≤ cap ∧ cur.size = cap * s ∧ n ≤ N := by
  obtain ⟨n, xs, hn, hl, ⟨rfl, rfl⟩ | ⟨b, cap, cur, rfl, h1, h2, h3, h4, h5, -⟩⟩ := h
  · exact .inl rfl
  · exact .inr ⟨b, n, cap, cur, rfl, h1, h2, h3, h5, hn⟩
theorem row_cell {w : World} {T : Nat} {L : List CK} {b : Nat} {c : Array Value} {i j : Nat} {ck : CK} (hw : WT kd.sig B N w) (hT : kd.sig T = some L) (hB : B ≤ b) (hb : w.heap[b]? = some (.cells c T (0, 0))) (hi : i < c.size) (hj : i % L.length = j) (hck : L[j]? = some ck) : ∃ v, w.cell? ⟨b, i, none⟩ = some v ∧ CellOK w B N ck v :=
  hw.cell hB hb hT hi (by rw [hj]; exact hck)
set_option maxHeartbeats 1000000 in
theorem choose_1 (w : World) (pe fb r lb n cap rb nr cr : Nat) (vp : Value) (t : Int) (T : Nat) (f : Array Value) (hNN : N ≤ 68719476736) (hw : WT kd.sig B N w) (hBw : B ≤ w.heap.size) (hF : w.heap[fb]? = some (.cells f 118 (0, 0))) (hBf : B ≤ fb) (hsz : (r + 1) * 18 ≤ f.size)
    (e : Array Value) (hE : w.heap[pe]? = some (.cells e 66 (0, 0))) (hBe : B ≤ pe) (hez : 21 ≤ e.size)
    (l1 : w.cell? ⟨fb, r * 18 + 1, none⟩ = some (.int .i64 1)) (l17 : w.cell? ⟨fb, r * 18 + 17, none⟩ = some (.slice (some ⟨lb, 0, none⟩) (n + 1) cap)) (lt : w.cell? ⟨lb, n, none⟩ = some (.int .i64 t))
    (c3 : w.cell? ⟨pe, 3, none⟩ = some (.int .i64 T)) (c9 : w.cell? ⟨pe, 9, none⟩ = some vp) (c19 : w.cell? ⟨pe, 19, none⟩ = some (.slice (some ⟨rb, 0, none⟩) nr cr)) (hnr : nr = T) (hpg : ProgOK w vp) :
    Calls Tryz.prog 132 #[.pointer (some ⟨pe, 0, none⟩), .pointer (some ⟨fb, r * 18, none⟩)] w fun e w' => e = .returned (.tuple #[]) ∧ ∃ ln : Int, ChPost B N w w' fb (r * 18) ln ∧
      ((ln = 23 ∧ (t < 0 ∨ (T : Int) ≤ t)) ∨ (ln ∈ [2, 3, 4, 5, 10, 17] ∧ 0 ≤ t ∧ t < T ∧ ((ln = 3 ∨ ln = 5) → PcIn w pe rb t.toNat))) := by
  subst hnr
  have kE : kd.sig 66 = some cs_r08_Env := by kernel_rfl
  have kF : kd.sig 118 = some cs_r08_Frame := by kernel_rfl
  have kR : kd.sig 137 = some cs_api_Record := by kernel_rfl
  have kI : kd.sig 125 = some cs_api_Instr := by kernel_rfl
  obtain ⟨v19, q1, q2⟩ := row_cell hw kE hBe hE (i := 19) (j := 19) (by omega) rfl rfl
  rw [c19] at q1
  cases q1
  obtain ⟨v9, q1, o9⟩ := row_cell hw kE hBe hE (i := 9) (j := 9) (by omega) rfl rfl
  rw [c9] at q1
  cases q1
  obtain ⟨v10, q10, j0, rfl, -⟩ := row_cell hw kF hBf hF (i := r * 18 + 10) (j := 10) (by omega) (by show (r * 18 + 10) % 18 = 10; omega) rfl
  obtain ⟨v17, q17, o17⟩ := row_cell hw kF hBf hF (i := r * 18 + 17) (j := 17) (by omega) (by show (r * 18 + 17) % 18 = 17; omega) rfl
  rw [l17] at q17
  cases q17
  obtain ⟨ap, np, cp, hvp⟩ : ∃ ap np cp, vp = .slice ap np cp := by
    rcases sl_blk o9 with rfl | ⟨b, n, c, cur, rfl, -⟩
    · exact ⟨_, _, _, rfl⟩
    · exact ⟨_, _, _, rfl⟩
  have hln : n ≤ 68719476736 := by
    rcases sl_blk o17 with h | ⟨b, n', c, cur, h, -, -, -, -, h2⟩
    · cases h
    · cases h; omega
  have CE : ChE w pe fb (r * 18) lb n cap rb nr cr np cp ap t nr := ⟨⟨j0, q10⟩, lt_of_blk hF, free_blk hF _, free_blk hF _, l1, l17, lt, hln, c3, by rw [← hvp]; exact c9, c19⟩
  by_cases ht : t < 0 ∨ (nr : Int) ≤ t
  · refine (choose_out w pe fb (r * 18) lb n cap rb nr cr np cp ap t nr CE ht).mono ?_
    rintro _ w' ⟨rfl, q, rfl⟩
    exact ⟨rfl, 23, chPost (hw.drewN q) ((Eff.refl _ w).drewN q) hF hsz (i64_in (by omega)), .inl ⟨rfl, ht⟩⟩
  · obtain ⟨z, rfl⟩ : ∃ z : Nat, t = z := ⟨t.toNat, by omega⟩
    have hz : z < nr := by omega
    rcases sl_blk q2 with h | ⟨b, n', c, cur, h, hb1, hb2, hb3, hb4, hb5⟩
    · cases h
    cases h
    have hzc : (z + 1) * 7 ≤ cur.size := by rw [hb4]; exact Nat.mul_le_mul_right 7 (by omega)
    have rc := fun (j : Nat) (hj : j < 7) (ck : CK) (hck : cs_api_Record[j]? = some ck) => row_cell hw kR hb1 hb2 (i := z * 7 + j) (j := j) (by omega) (by show (z * 7 + j) % 7 = j; omega) hck
    obtain ⟨_, d0, p, rfl, p1⟩ := rc 0 (by omega) _ rfl
    obtain ⟨_, d1, pa, rfl, p2⟩ := rc 1 (by omega) _ rfl
    obtain ⟨_, d2, pc, rfl, p3⟩ := rc 2 (by omega) _ rfl
    obtain ⟨_, d3, le, rfl, p4⟩ := rc 3 (by omega) _ rfl
    obtain ⟨_, d4, wt, rfl, p5⟩ := rc 4 (by omega) _ rfl
    obtain ⟨ks, d5, p6⟩ := rc 5 (by omega) _ rfl
    obtain ⟨_, d6, st, rfl⟩ := rc 6 (by omega) _ rfl
    obtain ⟨ak, kn, kc, hks⟩ : ∃ ak kn kc, ks = .slice ak kn kc := by
      rcases sl_blk p6 with rfl | ⟨b, n, c, cur, rfl, -⟩
      · exact ⟨_, _, _, rfl⟩
      · exact ⟨_, _, _, rfl⟩
    subst hks
    have CR : ChR w rb z kn kc ak p pa pc le wt st := ⟨d0, d1, d2, d3, d4, d5, d6⟩
    have hrow : AllOK w B N cs_api_Record [.int .i64 p, .int .i64 pa, .int .i64 pc, .int .i64 le, .int .i64 wt, .slice ak kn kc, .bool st] := ⟨⟨_, rfl, p1⟩, ⟨_, rfl, p2⟩, ⟨_, rfl, p3⟩, ⟨_, rfl, p4⟩, ⟨_, rfl, p5⟩, p6, ⟨_, rfl⟩, trivial⟩
    have hrl := lt_of_blk hb2
    have hpl := lt_of_blk hE
    have hzT : (z : Int) < (nr : Int) := by omega
    -- a world with the line laid, then the record's copy
    have post1 : ∀ (q : Nat) (ln : Int), inK .i64 ln → ChPost B N w (((w.drewN q).setCell ⟨fb, r * 18 + 1, none⟩ (.int .i64 ln)).alloc (.cells (recRow p pa pc le wt (.slice ak kn kc) st) 137)) fb (r * 18) ln := fun q ln hl => by
      have h1 := chPost (hw.drewN q) ((Eff.refl _ w).drewN q) hF hsz hl
      exact h1.trans (h1.wt.alloc (c := recRow p pa pc le wt (.slice ak kn kc) st) kR (RowsOK.one (hrow.mono h1.eff (Nat.le_refl _)))) (Eff.alloc1 _ _ _)
    have post2 : ∀ (q nq : Nat) (ln : Int), inK .i64 ln → ChPost B N w ((((w.drewN q).alloc (.cells (recRow p pa pc le wt (.slice ak kn kc) st) 137)).drewN nq).setCell ⟨fb, r * 18 + 1, none⟩ (.int .i64 ln)) fb (r * 18) ln := fun q nq ln hl =>
      chPost (((hw.drewN q).alloc (c := recRow p pa pc le wt (.slice ak kn kc) st) kR (RowsOK.one (hrow.mono ((Eff.refl (fun _ _ _ => False) w).drewN q) (Nat.le_refl _)))).drewN nq) ((((Eff.refl _ w).drewN q).alloc _).drewN nq) hF hsz hl
    have main : ∀ (v : Value), IsProg w (.slice ap np cp) p v → CellOK w B N (.sl 125 3) v → (∀ qb m mc, v = .slice (some ⟨qb, 0, none⟩) m mc → ∀ j, j < m → ∃ a : Int, w.cell? ⟨qb, j * 3 + 1, none⟩ = some (.int .i64 a) ∧ 0 ≤ a) →
        Calls Tryz.prog 132 #[.pointer (some ⟨pe, 0, none⟩), .pointer (some ⟨fb, r * 18, none⟩)] w fun e w' => e = .returned (.tuple #[]) ∧ ∃ ln : Int, ChPost B N w w' fb (r * 18) ln ∧
        ((ln = 23 ∧ ((z : Int) < 0 ∨ (nr : Int) ≤ z)) ∨ (ln ∈ [2, 3, 4, 5, 10, 17] ∧ 0 ≤ (z : Int) ∧ (z : Int) < nr ∧ ((ln = 3 ∨ ln = 5) → PcIn w pe rb (z : Int).toNat))) := fun v hv ov hA => by
      by_cases hw1 : wt ≠ -1
      · refine (choose_wait w pe fb (r * 18) lb n cap rb nr cr np cp ap z nr CE hzT hz hrl hpl kn kc ak p pa pc le wt st CR v hv hw1).mono ?_
        rintro _ w' ⟨rfl, q, rfl⟩
        exact ⟨rfl, 2, post1 q 2 (i64_in (by omega)), .inr ⟨by simp, by omega, hzT, by omega⟩⟩
      have hw1 : wt = -1 := by omega
      by_cases hpc : pc < 0
      · refine (choose_finA w pe fb (r * 18) lb n cap rb nr cr np cp ap z nr CE hzT hz hrl hpl kn kc ak p pa pc le wt st CR v hv hw1 hpc).mono ?_
        rintro _ w' ⟨rfl, q, rfl⟩
        exact ⟨rfl, 17, post1 q 17 (i64_in (by omega)), .inr ⟨by simp, by omega, hzT, by omega⟩⟩
      obtain ⟨av, m, mc, hvv⟩ : ∃ av m mc, v = .slice av m mc := by
        rcases sl_blk ov with rfl | ⟨b, n, c, cur, rfl, -⟩
        · exact ⟨_, _, _, rfl⟩
        · exact ⟨_, _, _, rfl⟩
      by_cases hpm : (m : Int) ≤ pc
      · refine (choose_finB w pe fb (r * 18) lb n cap rb nr cr np cp ap z nr CE hzT hz hrl hpl kn kc ak p pa pc le wt st CR v hv hw1 av m mc hvv (by omega) hpm).mono ?_
        rintro _ w' ⟨rfl, q, rfl⟩
        exact ⟨rfl, 17, post1 q 17 (i64_in (by omega)), .inr ⟨by simp, by omega, hzT, by omega⟩⟩
      rcases sl_blk ov with h | ⟨qb, m', mc', cq, h, hq1, hq2, hq3, hq4, hq5⟩
      · rw [hvv] at h
        cases h
        omega
      rw [hvv] at h
      cases h
      obtain ⟨y, hy⟩ : ∃ y : Nat, pc = y := ⟨pc.toNat, by omega⟩
      have hym : y < m := by omega
      have hyc : (y + 1) * 3 ≤ cq.size := by rw [hq4]; exact Nat.mul_le_mul_right 3 (by omega)
      obtain ⟨_, e0, op, rfl, -⟩ := row_cell hw kI hq1 hq2 (i := y * 3) (j := 0) (by omega) (by show (y * 3) % 3 = 0; omega) rfl
      obtain ⟨A, e1, hA0⟩ := hA qb m mc hvv y hym
      have PI : PcIn w pe rb (z : Int).toNat := ⟨y, qb, m, mc, p, .slice ap np cp, by rw [← hy]; exact d2, d0, by rw [← hvp]; exact c9, by rw [← hvv]; exact hv, hym⟩
      by_cases ho : op = 0
      · refine (choose_C w pe fb (r * 18) lb n cap rb nr cr np cp ap z nr CE hzT hz hrl hpl kn kc ak p pa pc le wt st CR v hv hw1 qb m mc y hvv hy hym (lt_of_blk hq2) op A e0 e1 ho).mono ?_
        rintro _ w' ⟨rfl, q, rfl⟩
        exact ⟨rfl, 3, post1 q 3 (i64_in (by omega)), .inr ⟨by simp, by omega, hzT, fun _ => PI⟩⟩
      by_cases ho1 : op = 1
      · refine (choose_S w pe fb (r * 18) lb n cap rb nr cr np cp ap z nr CE hzT hz hrl hpl kn kc ak p pa pc le wt st CR v hv hw1 qb m mc y hvv hy hym (lt_of_blk hq2) op A e0 e1 ho1).mono ?_
        rintro _ w' ⟨rfl, q, rfl⟩
        exact ⟨rfl, 5, post1 q 5 (i64_in (by omega)), .inr ⟨by simp, by omega, hzT, fun _ => PI⟩⟩
      by_cases hA2 : (kn : Int) ≤ A
      · refine (choose_N1 w pe fb (r * 18) lb n cap rb nr cr np cp ap z nr CE hzT hz hrl hpl kn kc ak p pa pc le wt st CR v hv hw1 qb m mc y hvv hy hym (lt_of_blk hq2) op A e0 e1 ho ho1 hA2).mono ?_
        rintro _ w' ⟨rfl, q, nq, rfl⟩
        exact ⟨rfl, 4, post2 q nq 4 (i64_in (by omega)), .inr ⟨by simp, by omega, hzT, by omega⟩⟩
      obtain ⟨a, ha⟩ : ∃ a : Nat, A = a := ⟨A.toNat, by omega⟩
      have hak : a < kn := by omega
      rcases sl_blk p6 with h | ⟨kb, kn', kc', ck, h, hk1, hk2, hk3, hk4, hk5⟩
      · cases h
        omega
      cases h
      obtain ⟨_, ek, x, rfl, hxi⟩ := row_cell hw (T := 3) (L := [.int .i64]) (by kernel_rfl) hk1 hk2 (i := a) (j := 0) (by omega) (by show a % 1 = 0; omega) rfl
      by_cases hx1 : x = -1
      · refine (choose_N2 w pe fb (r * 18) lb n cap rb nr cr np cp ap z nr CE hzT hz hrl hpl kn kc (some ⟨kb, 0, none⟩) p pa pc le wt st CR v hv hw1 qb m mc y hvv hy hym (lt_of_blk hq2) op A e0 e1 ho ho1 a kb x rfl ha hak (lt_of_blk hk2) ek hx1).mono ?_
        rintro _ w' ⟨rfl, q, nq, rfl⟩
        exact ⟨rfl, 4, post2 q nq 4 (i64_in (by omega)), .inr ⟨by simp, by omega, hzT, by omega⟩⟩
      · refine (choose_J w pe fb (r * 18) lb n cap rb nr cr np cp ap z nr CE hzT hz hrl hpl kn kc (some ⟨kb, 0, none⟩) p pa pc le wt st CR v hv hw1 qb m mc y hvv hy hym (lt_of_blk hq2) op A e0 e1 ho ho1 a kb x rfl ha hak (lt_of_blk hk2) ek hx1).mono ?_
        rintro _ w' ⟨rfl, q, nq, rfl⟩
        have h2 := post2 q nq 10 (i64_in (by omega))
        have hF1 := blk_setCell (w := (((w.drewN q).alloc (.cells (recRow p pa pc le wt (.slice (some ⟨kb, 0, none⟩) kn kc) st) 137)).drewN nq)) (((((Eff.refl (fun _ _ _ => False) w).drewN q).alloc _).drewN nq).blk hF fun _ _ h => h) (r * 18 + 1) (.int .i64 10)
        exact ⟨rfl, 10, h2.set10 hF1 hxi, .inr ⟨by simp, by omega, hzT, by omega⟩⟩
    by_cases hp : p < 0 ∨ (slLen (.slice ap np cp) : Int) ≤ p
    · refine main (.slice none 0 0) (.inl ⟨hp, rfl⟩) ⟨0, [], by omega, World.ownsRow_nil _ _ _ _⟩ (fun qb m mc h => by cases h)
    · simp only [slLen] at hp
      obtain ⟨q, rfl⟩ : ∃ q : Nat, p = q := ⟨p.toNat, by omega⟩
      rw [hvp] at o9
      rcases sl_blk o9 with h | ⟨pb, np', cp', cpp, h, hp1, hp2, hp3, hp4, hp5⟩
      · cases h
        omega
      cases h
      obtain ⟨v, ev, ov⟩ := row_cell hw (T := 123) (L := [.sl 125 3]) (by kernel_rfl) hp1 hp2 (i := q) (j := 0) (by omega) (by show q % 1 = 0; omega) rfl
      exact main v (.inr ⟨q, pb, cp, rfl, by show q < np; omega, rfl, ev⟩) ov (fun qb m mc h j hj => hpg pb np cp hvp q (by omega) qb m mc (by rw [← h]; exact ev) j hj)
end Go.Proofs.YtncnepmgmphanaaGreatDoor

namespace Go.Proofs.YtncnepmgmphanaaGreatDoor
open Go.RowKit
variable {P : Program} {kd : Kd} {w w' : World} {B N : Nat} {L : List CK}
structure AppTold (kd : Kd) (e : TypeId) (s B N : Nat) (w : World) (g n : Nat) (news : List Value) (g' cap' : Nat) (w' : World) : Prop where
  wt : WT kd.sig B N w'
  eff : Eff (fun k U j => k = g ∧ n * s ≤ j) w w'
  blk : ∃ c', w'.heap[g']? = some (.cells c' e (0, 0)) ∧ c'.size = cap' * s
  cap : n + 1 ≤ cap'
  max : cap' ≤ maxLen
  at' : g' = g ∨ w.heap.size ≤ g'
  old : ∀ j, j < n * s → w'.cell? ⟨g', j, none⟩ = w.cell? ⟨g, j, none⟩
  new : ∀ j v, news[j]? = some v → w'.cell? ⟨g', n * s + j, none⟩ = some v
  fresh : g' = g ∨ (g' = w.heap.size ∧ Eff (fun _ _ _ => False) w w')
theorem run_append_told {T ty e : TypeId} {i : TypeInfo} {z : Value} (ht : P.underlying T = some (.slice e)) (hi : P.info? e = some i) (hz : i.zero = some z) (hs : i.size = L.length) (hby : i.bytes ≤ 1024) (hzL : zeroOK L z.cells.toList = true) (hL0 : 0 < L.length)
    (hL : kd.sig e = some L) (hw : WT kd.sig B N w) (hBw : B ≤ w.heap.size) {g n cap : Nat} {cur : Array Value} (hg0 : B ≤ g) (hg : w.heap[g]? = some (.cells cur e (0, 0))) (hnc : n ≤ cap) (hcm : cap ≤ maxLen) (hcs : cur.size = cap * L.length) {a : Addr} {c : Nat} {news : List Value} (hn : RowsOK w B N L news.toArray) (hl : news.length = L.length)
    (hc : ∀ j u, news[j]? = some u → w.cell? (a.add j) = some u) (hN : n < 68719476736) :
    ∃ g' cap' w', (Builtin.append_ #[T, T] ty #[.slice (some ⟨g, 0, none⟩) n cap, .slice (some a) 1 c]).run P w = .ok (.slice (some ⟨g', 0, none⟩) (n + 1) cap') w' ∧ AppTold kd e L.length B N w g n news g' cap' w' := by
  have h1 : ∀ u ∈ news, u.oneCell' = true := fun u hu => by
    obtain ⟨j, hj⟩ := List.mem_iff_getElem?.1 hu
    obtain ⟨ck, -, o⟩ := hn.2 j u (by simpa using hj)
    exact o.one
  have hl1 : news.length = 1 * L.length := by rw [hl, Nat.one_mul]
  have hnL : n * L.length ≤ cur.size := by rw [hcs]; exact Nat.mul_le_mul_right _ hnc
  have hrow := hw.rows hL hg0 hg
  by_cases hroom : n + 1 ≤ cap
  · have hfit : n * L.length + news.length ≤ cur.size := by rw [hl1, hcs, ← Nat.add_mul]; exact Nat.mul_le_mul_right _ hroom
    have hr := run_append_room (P := P) w T ty e i ht hi g n cap cur hg a 1 c news (by rw [hs]; exact hl1) hc h1 hroom (by rw [hs]; exact hfit)
    rw [hs] at hr
    obtain ⟨cs, hcse⟩ : ∃ cs, cs = (cur.toList.take (n * L.length) ++ news ++ cur.toList.drop (n * L.length + news.length)).toArray := ⟨_, rfl⟩
    rw [← hcse] at hr
    have hsz : cs.size = cur.size := by
      rw [hcse]
      simp only [List.size_toArray, List.length_append, List.length_take, List.length_drop, Array.length_toList]; omega
    have hlow : ∀ j, j < n * L.length → cs[j]? = cur[j]? := fun j hj => by
      rw [hcse]
      simp only [List.getElem?_toArray, List.append_assoc]
      rw [List.getElem?_append_left (by simp; omega), List.getElem?_take, if_pos hj, Array.getElem?_toList]
    have hE0 := setRow_eff hg hsz
    have hE : Eff (fun k U j => k = g ∧ n * L.length ≤ j) w (w.setRow g cs) := by
      refine ⟨rfl, rfl, rfl, by simp [World.setRow], fun k c U f hk => ?_, hE0.other⟩
      by_cases e : k = g
      · subst e
        rw [hg] at hk
        cases hk
        refine ⟨cs, setRow_blk hg, hsz, fun j hj => hlow j ?_⟩
        by_cases hjn : j < n * L.length
        · exact hjn
        · exact absurd ⟨rfl, Nat.le_of_not_lt hjn⟩ hj
      · exact ⟨c, by rw [setRow_ne e]; exact hk, rfl, fun _ _ => rfl⟩
    refine ⟨g, cap, _, hr, ?_, hE, ⟨cs, setRow_blk hg, hsz.trans hcs⟩, hroom, hcm, .inl rfl, fun j hj => ?_, fun j v hv => ?_, .inl rfl⟩
    · refine hw.set_any hE0 (by simp [World.setRow]) (b := g) (fun k hk => setRow_ne hk) fun c' T' f' L' hB hh hLL => ?_
      rw [setRow_blk hg] at hh
      cases hh
      rw [hL] at hLL
      cases hLL
      refine ⟨rfl, RowsOK.mono ?_ hE0 (Nat.le_refl _)⟩
      have hdrop : RowsOK w B N L (cur.toList.drop (n * L.length + news.length)).toArray := by rw [hl1, ← Nat.add_mul]; exact hrow.drop (n := n + 1)
      have h3 := ((hrow.take hnL).app hn).app hdrop
      rw [hcse]
      simpa using h3
    · rw [cell_blk (setRow_blk hg), cell_blk hg, hlow j hj]
    · rw [cell_blk (setRow_blk hg), hcse]
      have hjl : j < news.length := (List.getElem?_eq_some_iff.1 hv).1
      simp only [List.getElem?_toArray]
      rw [List.getElem?_append_left (by simp; omega), List.getElem?_append_right (by simp; omega)]
      simp only [List.length_take, Array.length_toList]
      rw [show n * L.length + j - min (n * L.length) cur.size = j by omega]
      exact hv
  · obtain ⟨xs, hxs⟩ : ∃ xs, xs = cur.toList.take (n * L.length) := ⟨_, rfl⟩
    have hxl : xs.length = n * L.length := by rw [hxs]; simp; omega
    have holds : ∀ j u, xs[j]? = some u → w.cell? ((⟨g, 0, none⟩ : Addr).add j) = some u := fun j u hu => by
      rw [Go.WideShapes.add_plain, Nat.zero_add, cell_blk hg]
      rw [hxs, List.getElem?_take] at hu
      split at hu
      · rwa [Array.getElem?_toList] at hu
      · cases hu
    have hb47 : (n + 1) * i.bytes ≤ 140737488355328 := by
      have : (n + 1) * i.bytes ≤ 68719476736 * 1024 := Nat.mul_le_mul (by omega) hby
      omega
    have hr := run_append_grow (P := P) w T ty e i z ht hi hz ⟨g, 0, none⟩ n cap xs (by rw [hs]; exact hxl) holds a 1 c news (by rw [hs]; exact hl1) hc (by omega) (by omega) (growslice_fits (by omega) hb47)
    have hxr : RowsOK w B N L xs.toArray := by rw [hxs]; exact hrow.take hnL
    have hzl : L.length = z.cells.size := by simpa using (zeroOK_ok (B := B) (N := N) hzL w).len
    have hgc := grownCap_ge w (n + 1) cap e
    have hgm := grownCap_le_maxLen w (n + 1) cap e (by unfold maxLen; omega)
    obtain ⟨cap', hcap'⟩ : ∃ cap', cap' = grownCap w (n + 1) cap e := ⟨_, rfl⟩
    rw [← hcap'] at hr hgc hgm
    have hrr : RowsOK w B N L (xs ++ news).toArray := by simpa using hxr.app hn
    have hE0 : Eff (fun _ _ _ => False) w (w.drew.alloc (.cells ((xs ++ news).toArray ++ Builtin.zeroCells z.cells (cap' - (n + 1))) e)) := (Eff.refl _ _).drew.alloc _
    rw [show xs.toArray ++ news.toArray = (xs ++ news).toArray from by simp] at hr
    have hb : (w.drew.alloc (.cells ((xs ++ news).toArray ++ Builtin.zeroCells z.cells (cap' - (n + 1))) e)).heap[w.heap.size]? = some (.cells ((xs ++ news).toArray ++ Builtin.zeroCells z.cells (cap' - (n + 1))) e (0, 0)) := blk_alloc_new w.drew _
    refine ⟨w.heap.size, cap', _, hr, ?_, hE0.mono fun _ _ _ _ h => h.elim, ⟨_, hb, ?_⟩, hgc, hgm, .inr (Nat.le_refl _), fun j hj => ?_, fun j v hv => ?_, .inr ⟨rfl, hE0⟩⟩
    · refine WT.alloc hw.drew hL ?_
      exact (hrr.app (RowsOK.zeros hzL w (cap' - (n + 1)))).mono ((Eff.refl (fun _ _ _ => False) w).drew) (Nat.le_refl _)
    · simp only [Array.size_append, List.size_toArray, size_zeroCells, List.length_append, hxl, hl1, ← hzl]
      rw [← Nat.add_mul, ← Nat.add_mul]; congr 1; omega
    · rw [cell_blk hb, cell_blk hg, Array.getElem?_append_left (by simp; omega)]
      simp only [List.getElem?_toArray]
      rw [List.getElem?_append_left (by omega), hxs, List.getElem?_take, if_pos hj, Array.getElem?_toList]
    · have hjl : j < news.length := (List.getElem?_eq_some_iff.1 hv).1
      rw [cell_blk hb, Array.getElem?_append_left (by simp; omega)]
      simp only [List.getElem?_toArray]
      rw [List.getElem?_append_right (by omega), hxl, Nat.add_sub_cancel_left]
      exact hv
end Go.Proofs.YtncnepmgmphanaaGreatDoor

namespace Go.Proofs.YtncnepmgmphanaaGreatDoor
open Go.RowKit
def BytesAt (w : World) (ao : Option Addr) (n : Nat) : Prop := ∀ i : Nat, i < n → ∃ b off : Nat, ao = some ⟨b, off, none⟩ ∧ ∃ z : Int, w.cell? ⟨b, off + i, none⟩ = some (.int .u8 z) ∧ 0 ≤ z ∧ z ≤ 255
theorem BytesAt.keep {w w' : World} {ao : Option Addr} {n : Nat} (h : BytesAt w ao n) (g : Eff (fun k _ _ => w.heap.size ≤ k) w w') : BytesAt w' ao n := fun i hi => by
  obtain ⟨b, off, rfl, z, h1, h2⟩ := h i hi
  refine ⟨b, off, rfl, z, ?_, h2⟩
  have hl : b < w.heap.size := lt_of_cell h1
  rw [← h1]
  unfold World.cell?
  cases hh : w.heap[b]? with
  | none =>
    unfold World.cell? at h1
    rw [hh] at h1
    simp at h1
  | some o =>
    simp only
    rw [g.blk hh fun T j hx => by omega]
set_option maxRecDepth 100000 in
set_option maxHeartbeats 2000000 in
theorem number_walk (w : World) {kb n cap pos : Nat} {m : Int} {ao : Option Addr} {s1 s3 : Value} (hb : w.heap[kb]? = some (.cells #[.slice ao n cap, s1, .int .i64 pos, s3] 121 (0, 0))) (hbs : BytesAt w ao n) (hm : 0 < m) (hm2 : m ≤ 1000) (hp : pos ≤ 1000000) (hn : n ≤ 68719476736) :
    Calls Tryz.prog 55 #[.pointer (some ⟨kb, 0, none⟩), .int .i64 m] w fun e w' => ∃ r : Int, e = .returned (.int .i64 r) ∧ 0 ≤ r ∧ r < m ∧ Eff (fun k _ _ => k = kb) w w' ∧ w'.heap[kb]? = some (.cells #[.slice ao n cap, s1, .int .i64 (pos + 1 : Nat), s3] 121 (0, 0)) ∧ w'.heap.size = w.heap.size ∧ ∀ k, k ≠ kb → w'.heap[k]? = w.heap[k]? := by
  have c0 : w.cell? ⟨kb, 0, none⟩ = some (.slice ao n cap) := by rw [cell_blk hb]; rfl
  have c2 : w.cell? ⟨kb, 2, none⟩ = some (.int .i64 pos) := by rw [cell_blk hb]; rfl
  have f2 := free_blk hb 2
  have hadd : wrap64 ((pos : Int) + 1) = ((pos + 1 : Nat) : Int) := by rw [← IntWalk.i64_left, IntWalk.i64_in _ (by omega)]; omega
  have HB := Lib.hid (And.intro hb hbs)
  clear hb hbs
  by_cases hlt : pos < n
  · obtain ⟨ab, off, rfl, z, hz, hz0, hz1⟩ := HB.out.2 pos hlt
    have hlt' : (pos : Int) < (n : Int) := by omega
    have hm0 : m ≠ 0 := by omega
    go_enter Tryz.func55, Tryz.ntmps55
    go_wp2_with fail
    go_region_held3 (fun w' => w'.cell? ⟨kb, 0, none⟩ = some (.slice (some ⟨ab, off, none⟩) n cap) ∧ w'.cell? ⟨kb, 2, none⟩ = some (.int .i64 pos)) (exact ⟨c0, c2⟩) (fail)
    go_wp2_with fail
    go_region_held3 (fun w' => w'.cell? ⟨kb, 0, none⟩ = some (.slice (some ⟨ab, off, none⟩) n cap) ∧ w'.cell? ⟨kb, 2, none⟩ = some (.int .i64 pos) ∧ w'.cell? ⟨ab, off + pos, none⟩ = some (.int .u8 z)) (exact ⟨c0, c2, hz⟩) (fail)
    go_wp2_with fail
    refine bodyPost_ret (results_tmp rfl _ _ _) rfl ?_
    have hwz : IntKind.i64.wrap z = z := IntWalk.i64_in _ (by omega)
    refine ⟨_, rfl, ?_, ?_, ?_, ?_, ?_, fun k hk => ?_⟩
    · rw [hwz]; exact Int.tmod_nonneg m hz0
    · exact Int.tmod_lt_of_pos _ hm
    · exact ((Eff.refl _ w).setT HB.out.1 (.inl rfl)).drew.drew
    · show (w.setCell ⟨kb, 2, none⟩ (.int .i64 ((pos : Int) + 1))).heap[kb]? = _
      rw [blk_setCell HB.out.1]
      simp
    · show (w.setCell ⟨kb, 2, none⟩ (.int .i64 ((pos : Int) + 1))).heap.size = _
      simp [World.setCell]
    · show (w.setCell ⟨kb, 2, none⟩ (.int .i64 ((pos : Int) + 1))).heap[k]? = _
      exact blk_setCell_ne hk _
  · have hlt' : ¬ (pos : Int) < (n : Int) := by omega
    go_enter Tryz.func55, Tryz.ntmps55
    go_wp2_with fail
    go_region_held3 (fun w' => w'.cell? ⟨kb, 0, none⟩ = some (.slice ao n cap) ∧ w'.cell? ⟨kb, 2, none⟩ = some (.int .i64 pos)) (exact ⟨c0, c2⟩) (fail)
    go_wp2_with fail
    refine bodyPost_ret (results_tmp rfl _ _ _) rfl ?_
    refine ⟨_, rfl, ?_, ?_, ?_, ?_, ?_, fun k hk => ?_⟩
    · exact Int.le_refl _
    · exact hm
    · exact ((Eff.refl _ w).setT HB.out.1 (.inl rfl)).drew
    · show (w.setCell ⟨kb, 2, none⟩ (.int .i64 ((pos : Int) + 1))).heap[kb]? = _
      rw [blk_setCell HB.out.1]
      simp
    · show (w.setCell ⟨kb, 2, none⟩ (.int .i64 ((pos : Int) + 1))).heap.size = _
      simp [World.setCell]
    · show (w.setCell ⟨kb, 2, none⟩ (.int .i64 ((pos : Int) + 1))).heap[k]? = _
      exact blk_setCell_ne hk _
end Go.Proofs.YtncnepmgmphanaaGreatDoor
