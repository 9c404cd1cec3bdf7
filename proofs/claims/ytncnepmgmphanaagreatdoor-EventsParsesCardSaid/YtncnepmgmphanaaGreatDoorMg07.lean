/- Choose, at the first line: a join. No condition beside those named. -/
import Derived.Test.YtncnepmgmphanaaGreatDoorMg06
import Derived.BigQuiet
import Derived.Test.YtncnepmgmphanaaGreatDoorMg03
set_option linter.unusedVariables false
set_option linter.unusedSimpArgs false
set_option linter.unusedSectionVars false
namespace Go.Proofs.YtncnepmgmphanaaGreatDoor
section
open Go.RowKit
variable {B : Nat}
set_option maxRecDepth 100000 in
set_option maxHeartbeats 1000000 in
theorem aco (w : World) (pe fb o lb n cap rb nr cr np cp : Nat) (ap : Option Addr) (t : Nat) (T : Int) (h : xL w pe fb o lb n cap rb nr cr np cp ap t T) (ht : (t : Int) < T) (htn : t < nr) (hrl : rb < w.heap.size) (hpl : pe < w.heap.size)
   (kn kc : Nat) (ak : Option Addr) (p pa pc le wt : Int) (st : Bool) (hr : zu w rb t kn kc ak p pa pc le wt st) (v : Value) (hv : eG w (.slice ap np cp) p v) (hw : wt = -1) (qb m mc z : Nat) (hvv : v = .slice (some ⟨qb, 0, none⟩) m mc) (hz : pc = z) (TY : z < m) (mo : qb < w.heap.size) (op A : Int) (h0 : w.cell? ⟨qb, z * 3, none⟩ = some (.int .i64 op)) (hA : w.cell? ⟨qb, z * 3 + 1, none⟩ = some (.int .i64 A)) (ho : op ≠ 0) (ho1 : op ≠ 1) (hA2 : (kn : Int) ≤ A) :
   Calls Tryz.prog 132 #[.pointer (some ⟨pe, 0, none⟩), .pointer (some ⟨fb, o, none⟩)] w fun e w' => e = .returned (.tuple #[]) ∧ ∃ q nq, w' = (((w.drewN q).alloc (.cells (kH p pa pc le wt (.slice ak kn kc) st) 137)).drewN nq).setCell ⟨fb, o + 1, none⟩ (.int .i64 4) := by
 have CW := Lib.hid (fun q => Kg h htn hrl hpl hr hv q)
 obtain ⟨⟨j0, hj0⟩, h1, h2, h2', h3, h4, h5, h6, h7, h8, h9⟩ := h
 have TP := Lib.hid (gF w fb o lb n cap t h6 h4 h5)
 have TK := Lib.hid (fun q => j5 (w.drewN q) pe nr cr (some ⟨rb, 0, none⟩) t T h7 h9 true (.inl ⟨rfl, by omega, ht, by omega⟩))
 have hti : (t : Int) < (nr : Int) := by omega
 have ht0 : (0 : Int) ≤ (t : Int) := by omega
 clear h4 h5 h6 h7 h8 h9 ht hv hr h2 h2' hj0
 subst hw
 subst hvv
 subst hz
 have NZ : ¬ (z : Int) < 0 := by omega
 have Mo : (z : Int) < (m : Int) := by omega
 have Xi : ¬ (m : Int) ≤ (z : Int) := by omega
 have U9 : (0 : Int) ≤ (z : Int) := by omega
 have IC : Hid (∀ q, (w.drewN q).cell? ⟨qb, z * 3, none⟩ = some (.int .i64 op) ∧ (w.drewN q).cell? ⟨qb, z * 3 + 1, none⟩ = some (.int .i64 A) ∧ qb < (w.drewN q).heap.size) := Lib.hid (fun q => ⟨h0, hA, mo⟩)
 clear h0 hA mo
 have hA3 : ¬ A < (kn : Int) := by omega
 go_enter Tryz.func132, Tryz.ntmps132
 go_wp2_with (first
   | (go_at_call 156; refine TP.out.mono ?_; rintro e w' ⟨rfl, q, rfl⟩)
   | (go_at_call 85; refine (TK.out _).mono ?_; rintro e w' ⟨rfl, rfl⟩
      obtain ⟨w1, hw1⟩ : ∃ w1, w1 = w.drewN q := ⟨_, rfl⟩
      have C := CW.out q
      rw [← hw1] at C ⊢
      obtain ⟨g1, g2, g3, g4, g5, g7, ⟨j1, g8⟩, g6, ⟨d0, d1, d2, d3, d4, d5, d6⟩, pg⟩ := C
      have PG := Lib.hid pg
      have I := IC.out q
      rw [← hw1] at I
      obtain ⟨i0, i1, g9⟩ := I
      have HW1 := Lib.hid hw1
      clear hw1 pg h1 h3)
   | (go_at_call 157; refine (PG.out _).mono ?_; rintro e w' ⟨rfl, rfl⟩))
 have eA : (w1.alloc (.cells #[.int .i64 p, .int .i64 pa, .int .i64 z, .int .i64 le, .int .i64 (-1), .slice ak kn kc, .bool st] 137)).cell? ⟨qb, z * 3 + 1, none⟩ = some (.int .i64 A) := Eff.cell (Eff.bL (fun _ _ _ => False) w1 (.cells #[.int .i64 p, .int .i64 pa, .int .i64 z, .int .i64 le, .int .i64 (-1), .slice ak kn kc, .bool st] 137)) i1 (fun _ h => h)
 have hg : decide (A < (kn : Int)) = false := decide_eq_false (by omega)
 go_quiet (fail)
 go_wp2_with fail
 exact bodyPost_end (v := .tuple #[]) (by simp [results, Tryz.results132]) rfl ⟨rfl, q, _, by rw [← HW1.out]; rfl⟩
set_option maxRecDepth 100000 in
set_option maxHeartbeats 1000000 in
theorem Y2 (w : World) (pe fb o lb n cap rb nr cr np cp : Nat) (ap : Option Addr) (t : Nat) (T : Int) (h : xL w pe fb o lb n cap rb nr cr np cp ap t T) (ht : (t : Int) < T) (htn : t < nr) (hrl : rb < w.heap.size) (hpl : pe < w.heap.size)
   (kn kc : Nat) (ak : Option Addr) (p pa pc le wt : Int) (st : Bool) (hr : zu w rb t kn kc ak p pa pc le wt st) (v : Value) (hv : eG w (.slice ap np cp) p v) (hw : wt = -1) (qb m mc z : Nat) (hvv : v = .slice (some ⟨qb, 0, none⟩) m mc) (hz : pc = z) (TY : z < m) (mo : qb < w.heap.size) (op A : Int) (h0 : w.cell? ⟨qb, z * 3, none⟩ = some (.int .i64 op)) (hA : w.cell? ⟨qb, z * 3 + 1, none⟩ = some (.int .i64 A)) (ho : op ≠ 0) (ho1 : op ≠ 1) (a kb : Nat) (x : Int) (hak : ak = some ⟨kb, 0, none⟩) (hAa : A = a) (hA2 : a < kn) (hkl : kb < w.heap.size) (hx : w.cell? ⟨kb, a, none⟩ = some (.int .i64 x)) (sN : x = -1) :
   Calls Tryz.prog 132 #[.pointer (some ⟨pe, 0, none⟩), .pointer (some ⟨fb, o, none⟩)] w fun e w' => e = .returned (.tuple #[]) ∧ ∃ q nq, w' = (((w.drewN q).alloc (.cells (kH p pa pc le wt (.slice ak kn kc) st) 137)).drewN nq).setCell ⟨fb, o + 1, none⟩ (.int .i64 4) := by
 have CW := Lib.hid (fun q => Kg h htn hrl hpl hr hv q)
 obtain ⟨⟨j0, hj0⟩, h1, h2, h2', h3, h4, h5, h6, h7, h8, h9⟩ := h
 have TP := Lib.hid (gF w fb o lb n cap t h6 h4 h5)
 have TK := Lib.hid (fun q => j5 (w.drewN q) pe nr cr (some ⟨rb, 0, none⟩) t T h7 h9 true (.inl ⟨rfl, by omega, ht, by omega⟩))
 have hti : (t : Int) < (nr : Int) := by omega
 have ht0 : (0 : Int) ≤ (t : Int) := by omega
 clear h4 h5 h6 h7 h8 h9 ht hv hr h2 h2' hj0
 subst hw
 subst hvv
 subst hz
 have NZ : ¬ (z : Int) < 0 := by omega
 have Mo : (z : Int) < (m : Int) := by omega
 have Xi : ¬ (m : Int) ≤ (z : Int) := by omega
 have U9 : (0 : Int) ≤ (z : Int) := by omega
 have IC : Hid (∀ q, (w.drewN q).cell? ⟨qb, z * 3, none⟩ = some (.int .i64 op) ∧ (w.drewN q).cell? ⟨qb, z * 3 + 1, none⟩ = some (.int .i64 A) ∧ qb < (w.drewN q).heap.size) := Lib.hid (fun q => ⟨h0, hA, mo⟩)
 clear h0 hA mo
 subst hak
 subst hAa
 have ha1 : (a : Int) < (kn : Int) := by omega
 have ha2 : (0 : Int) ≤ (a : Int) := by omega
 have KC : Hid (∀ q, (w.drewN q).cell? ⟨kb, a, none⟩ = some (.int .i64 x) ∧ kb < (w.drewN q).heap.size) := Lib.hid (fun q => ⟨hx, hkl⟩)
 clear hx hkl
 subst sN
 go_enter Tryz.func132, Tryz.ntmps132
 go_wp2_with (first
   | (go_at_call 156; refine TP.out.mono ?_; rintro e w' ⟨rfl, q, rfl⟩)
   | (go_at_call 85; refine (TK.out _).mono ?_; rintro e w' ⟨rfl, rfl⟩
      obtain ⟨w1, hw1⟩ : ∃ w1, w1 = w.drewN q := ⟨_, rfl⟩
      have C := CW.out q
      rw [← hw1] at C ⊢
      obtain ⟨g1, g2, g3, g4, g5, g7, ⟨j1, g8⟩, g6, ⟨d0, d1, d2, d3, d4, d5, d6⟩, pg⟩ := C
      have PG := Lib.hid pg
      have I := IC.out q
      rw [← hw1] at I
      obtain ⟨i0, i1, g9⟩ := I
      have K := KC.out q
      rw [← hw1] at K
      obtain ⟨k0, k1⟩ := K
      have HW1 := Lib.hid hw1
      clear hw1 pg h1 h3)
   | (go_at_call 157; refine (PG.out _).mono ?_; rintro e w' ⟨rfl, rfl⟩))
 have eA : (w1.alloc (.cells #[.int .i64 p, .int .i64 pa, .int .i64 z, .int .i64 le, .int .i64 (-1), .slice (some ⟨kb, 0, none⟩) kn kc, .bool st] 137)).cell? ⟨qb, z * 3 + 1, none⟩ = some (.int .i64 a) := Eff.cell (Eff.bL (fun _ _ _ => False) w1 (.cells #[.int .i64 p, .int .i64 pa, .int .i64 z, .int .i64 le, .int .i64 (-1), .slice (some ⟨kb, 0, none⟩) kn kc, .bool st] 137)) i1 (fun _ h => h)
 have eK : (w1.alloc (.cells #[.int .i64 p, .int .i64 pa, .int .i64 z, .int .i64 le, .int .i64 (-1), .slice (some ⟨kb, 0, none⟩) kn kc, .bool st] 137)).cell? ⟨kb, a, none⟩ = some (.int .i64 (-1)) := Eff.cell (Eff.bL (fun _ _ _ => False) w1 (.cells #[.int .i64 p, .int .i64 pa, .int .i64 z, .int .i64 le, .int .i64 (-1), .slice (some ⟨kb, 0, none⟩) kn kc, .bool st] 137)) k0 (fun _ h => h)
 have hg : decide ((a : Int) < (kn : Int)) = true := decide_eq_true ha1
 go_quiet (fail)
 go_wp2_with fail
 exact bodyPost_end (v := .tuple #[]) (by simp [results, Tryz.results132]) rfl ⟨rfl, q, _, by rw [← HW1.out]; rfl⟩
set_option maxRecDepth 100000 in
set_option maxHeartbeats 1000000 in
theorem ac2 (w : World) (pe fb o lb n cap rb nr cr np cp : Nat) (ap : Option Addr) (t : Nat) (T : Int) (h : xL w pe fb o lb n cap rb nr cr np cp ap t T) (ht : (t : Int) < T) (htn : t < nr) (hrl : rb < w.heap.size) (hpl : pe < w.heap.size)
   (kn kc : Nat) (ak : Option Addr) (p pa pc le wt : Int) (st : Bool) (hr : zu w rb t kn kc ak p pa pc le wt st) (v : Value) (hv : eG w (.slice ap np cp) p v) (hw : wt = -1) (qb m mc z : Nat) (hvv : v = .slice (some ⟨qb, 0, none⟩) m mc) (hz : pc = z) (TY : z < m) (mo : qb < w.heap.size) (op A : Int) (h0 : w.cell? ⟨qb, z * 3, none⟩ = some (.int .i64 op)) (hA : w.cell? ⟨qb, z * 3 + 1, none⟩ = some (.int .i64 A)) (ho : op ≠ 0) (ho1 : op ≠ 1) (a kb : Nat) (x : Int) (hak : ak = some ⟨kb, 0, none⟩) (hAa : A = a) (hA2 : a < kn) (hkl : kb < w.heap.size) (hx : w.cell? ⟨kb, a, none⟩ = some (.int .i64 x)) (sN : x ≠ -1) :
   Calls Tryz.prog 132 #[.pointer (some ⟨pe, 0, none⟩), .pointer (some ⟨fb, o, none⟩)] w fun e w' => e = .returned (.tuple #[]) ∧ ∃ q nq, w' = ((((w.drewN q).alloc (.cells (kH p pa pc le wt (.slice ak kn kc) st) 137)).drewN nq).setCell ⟨fb, o + 1, none⟩ (.int .i64 10)).setCell ⟨fb, o + 10, none⟩ (.int .i64 x) := by
 have CW := Lib.hid (fun q => Kg h htn hrl hpl hr hv q)
 obtain ⟨⟨j0, hj0⟩, h1, h2, h2', h3, h4, h5, h6, h7, h8, h9⟩ := h
 have TP := Lib.hid (gF w fb o lb n cap t h6 h4 h5)
 have TK := Lib.hid (fun q => j5 (w.drewN q) pe nr cr (some ⟨rb, 0, none⟩) t T h7 h9 true (.inl ⟨rfl, by omega, ht, by omega⟩))
 have hti : (t : Int) < (nr : Int) := by omega
 have ht0 : (0 : Int) ≤ (t : Int) := by omega
 clear h4 h5 h6 h7 h8 h9 ht hv hr h2 h2' hj0
 subst hw
 subst hvv
 subst hz
 have NZ : ¬ (z : Int) < 0 := by omega
 have Mo : (z : Int) < (m : Int) := by omega
 have Xi : ¬ (m : Int) ≤ (z : Int) := by omega
 have U9 : (0 : Int) ≤ (z : Int) := by omega
 have IC : Hid (∀ q, (w.drewN q).cell? ⟨qb, z * 3, none⟩ = some (.int .i64 op) ∧ (w.drewN q).cell? ⟨qb, z * 3 + 1, none⟩ = some (.int .i64 A) ∧ qb < (w.drewN q).heap.size) := Lib.hid (fun q => ⟨h0, hA, mo⟩)
 clear h0 hA mo
 subst hak
 subst hAa
 have ha1 : (a : Int) < (kn : Int) := by omega
 have ha2 : (0 : Int) ≤ (a : Int) := by omega
 have KC : Hid (∀ q, (w.drewN q).cell? ⟨kb, a, none⟩ = some (.int .i64 x) ∧ kb < (w.drewN q).heap.size) := Lib.hid (fun q => ⟨hx, hkl⟩)
 clear hx hkl
 go_enter Tryz.func132, Tryz.ntmps132
 go_wp2_with (first
   | (go_at_call 156; refine TP.out.mono ?_; rintro e w' ⟨rfl, q, rfl⟩)
   | (go_at_call 85; refine (TK.out _).mono ?_; rintro e w' ⟨rfl, rfl⟩
      obtain ⟨w1, hw1⟩ : ∃ w1, w1 = w.drewN q := ⟨_, rfl⟩
      have C := CW.out q
      rw [← hw1] at C ⊢
      obtain ⟨g1, g2, g3, g4, g5, g7, ⟨j1, g8⟩, g6, ⟨d0, d1, d2, d3, d4, d5, d6⟩, pg⟩ := C
      have PG := Lib.hid pg
      have I := IC.out q
      rw [← hw1] at I
      obtain ⟨i0, i1, g9⟩ := I
      have K := KC.out q
      rw [← hw1] at K
      obtain ⟨k0, k1⟩ := K
      have HW1 := Lib.hid hw1
      clear hw1 pg h1 h3)
   | (go_at_call 157; refine (PG.out _).mono ?_; rintro e w' ⟨rfl, rfl⟩))
 have eA : (w1.alloc (.cells #[.int .i64 p, .int .i64 pa, .int .i64 z, .int .i64 le, .int .i64 (-1), .slice (some ⟨kb, 0, none⟩) kn kc, .bool st] 137)).cell? ⟨qb, z * 3 + 1, none⟩ = some (.int .i64 a) := Eff.cell (Eff.bL (fun _ _ _ => False) w1 (.cells #[.int .i64 p, .int .i64 pa, .int .i64 z, .int .i64 le, .int .i64 (-1), .slice (some ⟨kb, 0, none⟩) kn kc, .bool st] 137)) i1 (fun _ h => h)
 have eK : (w1.alloc (.cells #[.int .i64 p, .int .i64 pa, .int .i64 z, .int .i64 le, .int .i64 (-1), .slice (some ⟨kb, 0, none⟩) kn kc, .bool st] 137)).cell? ⟨kb, a, none⟩ = some (.int .i64 x) := Eff.cell (Eff.bL (fun _ _ _ => False) w1 (.cells #[.int .i64 p, .int .i64 pa, .int .i64 z, .int .i64 le, .int .i64 (-1), .slice (some ⟨kb, 0, none⟩) kn kc, .bool st] 137)) k0 (fun _ h => h)
 have hg : decide ((a : Int) < (kn : Int)) = true := decide_eq_true ha1
 go_quiet (fail)
 go_wp2_with fail
 go_region_with (fail)
 all_goals
   go_wp2_with fail
   exact bodyPost_end (v := .tuple #[]) (by simp [results, Tryz.results132]) rfl ⟨rfl, q, _, by rw [← HW1.out]; rfl⟩
end
section
open Go.RowKit
variable {B N : Nat}
structure lN (B N : Nat) (w w' : World) (fb o : Nat) (ln : Int) : Prop where
 wt : WT kd.sig B N w'
 aS : Eff (fun k T j => k = fb ∧ (j = o + 1 ∨ j = o + 10)) w w'
 ln : w'.cell? ⟨fb, o + 1, none⟩ = some (.int .i64 ln)
theorem Nl {w w1 : World} {fb r : Nat} {ln : Int} {f : Array Value} (h1 : WT kd.sig B N w1) (h2 : Eff (fun _ _ _ => False) w w1) (hF : w.heap[fb]? = some (.cells f 118 (0, 0))) (hsz : (r + 1) * 18 ≤ f.size) (hl : bB .i64 ln) : lN B N w (w1.setCell ⟨fb, r * 18 + 1, none⟩ (.int .i64 ln)) fb (r * 18) ln := by
 have hT : kd.sig 118 = some ax := by kernel_rfl
 have hF1 := h2.blk hF (fun _ _ h => h)
 have hb1 := aR hF1 (r * 18 + 1) (.int .i64 ln)
 have m1 : (r * 18 + 1) % ax.length = 1 := by show (r * 18 + 1) % 18 = 1; omega
 refine ⟨h1.set hF1 hT (i := r * 18 + 1) (ck := .int .i64) (by rw [m1]; rfl) ⟨ln, rfl, hl⟩, (h2.mono fun _ _ _ _ h => h.elim).dK hF1 (.inl ⟨rfl, .inl rfl⟩), ?_⟩
 rw [aa hb1, Array.getElem?_setIfInBounds_self_of_lt (by omega)]
theorem lN.trans {w w' w2 : World} {fb o : Nat} {ln : Int} (h : lN B N w w' fb o ln) (h1 : WT kd.sig B N w2) (h2 : Eff (fun _ _ _ => False) w' w2) : lN B N w w2 fb o ln :=
 ⟨h1, h.aS.trans (h2.mono fun _ _ _ _ h => h.elim), h2.cell h.ln fun _ h => h⟩
theorem lN.ai1 {w w' : World} {fb r : Nat} {ln x : Int} {f : Array Value} (h : lN B N w w' fb (r * 18) ln) (hF : w'.heap[fb]? = some (.cells f 118 (0, 0))) (hx : bB .i64 x) : lN B N w (w'.setCell ⟨fb, r * 18 + 10, none⟩ (.int .i64 x)) fb (r * 18) ln := by
 have hT : kd.sig 118 = some ax := by kernel_rfl
 have hb1 := aR hF (r * 18 + 10) (.int .i64 x)
 have m1 : (r * 18 + 10) % ax.length = 10 := by show (r * 18 + 10) % 18 = 10; omega
 refine ⟨h.wt.set hF hT (i := r * 18 + 10) (ck := .int .i64) (by rw [m1]; rfl) ⟨x, rfl, hx⟩, h.aS.dK hF (.inl ⟨rfl, .inr rfl⟩), ?_⟩
 rw [aa hb1, Array.getElem?_setIfInBounds_ne (by omega), ← aa hF]
 exact h.ln
def iQ (w : World) (pe rb t : Nat) : Prop := ∃ (z qb m mc : Nat) (p : Int) (vp : Value), w.cell? ⟨rb, t * 7 + 2, none⟩ = some (.int .i64 z) ∧ w.cell? ⟨rb, t * 7, none⟩ = some (.int .i64 p) ∧ w.cell? ⟨pe, 9, none⟩ = some vp ∧ eG w vp p (.slice (some ⟨qb, 0, none⟩) m mc) ∧ z < m
def qX (w : World) (vp : Value) : Prop := ∀ (pb n cap : Nat), vp = .slice (some ⟨pb, 0, none⟩) n cap → ∀ i, i < n → ∀ qb m mc, w.cell? ⟨pb, i, none⟩ = some (.slice (some ⟨qb, 0, none⟩) m mc) → ∀ j, j < m → ∃ a : Int, w.cell? ⟨qb, j * 3 + 1, none⟩ = some (.int .i64 a) ∧ 0 ≤ a
theorem df {w : World} {E s : Nat} {v : Value} (h : aU w B N (.sl E s) v) : (v = .slice none 0 0) ∨ ∃ b n cap cur, v = .slice (some ⟨b, 0, none⟩) n cap ∧ B ≤ b ∧ w.heap[b]? = some (.cells cur E (0, 0)) ∧ n ≤ cap ∧ cur.size = cap * s ∧ n ≤ N := by
 obtain ⟨n, xs, hn, hl, ⟨rfl, rfl⟩ | ⟨b, cap, cur, rfl, h1, h2, h3, h4, h5, -⟩⟩ := h
 · exact .inl rfl
 · exact .inr ⟨b, n, cap, cur, rfl, h1, h2, h3, h5, hn⟩
theorem bZ {w : World} {T : Nat} {L : List CK} {b : Nat} {c : Array Value} {i j : Nat} {ck : CK} (hw : WT kd.sig B N w) (hT : kd.sig T = some L) (hB : B ≤ b) (hb : w.heap[b]? = some (.cells c T (0, 0))) (hi : i < c.size) (hj : i % L.length = j) (hck : L[j]? = some ck) : ∃ v, w.cell? ⟨b, i, none⟩ = some v ∧ aU w B N ck v :=
 hw.cell hB hb hT hi (by rw [hj]; exact hck)
set_option maxHeartbeats 1000000 in
theorem ade (w : World) (pe fb r lb n cap rb nr cr : Nat) (vp : Value) (t : Int) (T : Nat) (f : Array Value) (fM : N ≤ 68719476736) (hw : WT kd.sig B N w) (hBw : B ≤ w.heap.size) (hF : w.heap[fb]? = some (.cells f 118 (0, 0))) (Bh : B ≤ fb) (hsz : (r + 1) * 18 ≤ f.size)
   (e : Array Value) (hE : w.heap[pe]? = some (.cells e 66 (0, 0))) (hBe : B ≤ pe) (hez : 21 ≤ e.size)
   (l1 : w.cell? ⟨fb, r * 18 + 1, none⟩ = some (.int .i64 1)) (Yc : w.cell? ⟨fb, r * 18 + 17, none⟩ = some (.slice (some ⟨lb, 0, none⟩) (n + 1) cap)) (lt : w.cell? ⟨lb, n, none⟩ = some (.int .i64 t))
   (c3 : w.cell? ⟨pe, 3, none⟩ = some (.int .i64 T)) (c9 : w.cell? ⟨pe, 9, none⟩ = some vp) (c19 : w.cell? ⟨pe, 19, none⟩ = some (.slice (some ⟨rb, 0, none⟩) nr cr)) (hnr : nr = T) (hpg : qX w vp) :
   Calls Tryz.prog 132 #[.pointer (some ⟨pe, 0, none⟩), .pointer (some ⟨fb, r * 18, none⟩)] w fun e w' => e = .returned (.tuple #[]) ∧ ∃ ln : Int, lN B N w w' fb (r * 18) ln ∧
     ((ln = 23 ∧ (t < 0 ∨ (T : Int) ≤ t)) ∨ (ln ∈ [2, 3, 4, 5, 10, 17] ∧ 0 ≤ t ∧ t < T ∧ ((ln = 3 ∨ ln = 5) → iQ w pe rb t.toNat))) := by
 subst hnr
 have kE : kd.sig 66 = some fQ := by kernel_rfl
 have kF : kd.sig 118 = some ax := by kernel_rfl
 have kR : kd.sig 137 = some dJ := by kernel_rfl
 have kI : kd.sig 125 = some fu := by kernel_rfl
 obtain ⟨v19, q1, q2⟩ := bZ hw kE hBe hE (i := 19) (j := 19) (by omega) rfl rfl
 rw [c19] at q1
 cases q1
 obtain ⟨v9, q1, o9⟩ := bZ hw kE hBe hE (i := 9) (j := 9) (by omega) rfl rfl
 rw [c9] at q1
 cases q1
 obtain ⟨v10, q10, j0, rfl, -⟩ := bZ hw kF Bh hF (i := r * 18 + 10) (j := 10) (by omega) (by show (r * 18 + 10) % 18 = 10; omega) rfl
 obtain ⟨v17, q17, mZ⟩ := bZ hw kF Bh hF (i := r * 18 + 17) (j := 17) (by omega) (by show (r * 18 + 17) % 18 = 17; omega) rfl
 rw [Yc] at q17
 cases q17
 obtain ⟨ap, np, cp, hvp⟩ : ∃ ap np cp, vp = .slice ap np cp := by
   rcases df o9 with rfl | ⟨b, n, c, cur, rfl, -⟩
   · exact ⟨_, _, _, rfl⟩
   · exact ⟨_, _, _, rfl⟩
 have hln : n ≤ 68719476736 := by
   rcases df mZ with h | ⟨b, n', c, cur, h, -, -, -, -, h2⟩
   · cases h
   · cases h; omega
 have CE : xL w pe fb (r * 18) lb n cap rb nr cr np cp ap t nr := ⟨⟨j0, q10⟩, aK hF, ay hF _, ay hF _, l1, Yc, lt, hln, c3, by rw [← hvp]; exact c9, c19⟩
 by_cases ht : t < 0 ∨ (nr : Int) ≤ t
 · refine (WR w pe fb (r * 18) lb n cap rb nr cr np cp ap t nr CE ht).mono ?_
   rintro _ w' ⟨rfl, q, rfl⟩
   exact ⟨rfl, 23, Nl (hw.drewN q) ((Eff.refl _ w).drewN q) hF hsz (i64_in (by omega)), .inl ⟨rfl, ht⟩⟩
 · obtain ⟨z, rfl⟩ : ∃ z : Nat, t = z := ⟨t.toNat, by omega⟩
   have hz : z < nr := by omega
   rcases df q2 with h | ⟨b, n', c, cur, h, hb1, hb2, hb3, hb4, hb5⟩
   · cases h
   cases h
   have hzc : (z + 1) * 7 ≤ cur.size := by rw [hb4]; exact Nat.mul_le_mul_right 7 (by omega)
   have rc := fun (j : Nat) (hj : j < 7) (ck : CK) (hck : dJ[j]? = some ck) => bZ hw kR hb1 hb2 (i := z * 7 + j) (j := j) (by omega) (by show (z * 7 + j) % 7 = j; omega) hck
   obtain ⟨_, d0, p, rfl, p1⟩ := rc 0 (by omega) _ rfl
   obtain ⟨_, d1, pa, rfl, p2⟩ := rc 1 (by omega) _ rfl
   obtain ⟨_, d2, pc, rfl, p3⟩ := rc 2 (by omega) _ rfl
   obtain ⟨_, d3, le, rfl, p4⟩ := rc 3 (by omega) _ rfl
   obtain ⟨_, d4, wt, rfl, p5⟩ := rc 4 (by omega) _ rfl
   obtain ⟨ks, d5, p6⟩ := rc 5 (by omega) _ rfl
   obtain ⟨_, d6, st, rfl⟩ := rc 6 (by omega) _ rfl
   obtain ⟨ak, kn, kc, hks⟩ : ∃ ak kn kc, ks = .slice ak kn kc := by
     rcases df p6 with rfl | ⟨b, n, c, cur, rfl, -⟩
     · exact ⟨_, _, _, rfl⟩
     · exact ⟨_, _, _, rfl⟩
   subst hks
   have CR : zu w rb z kn kc ak p pa pc le wt st := ⟨d0, d1, d2, d3, d4, d5, d6⟩
   have hrow : bJ w B N dJ [.int .i64 p, .int .i64 pa, .int .i64 pc, .int .i64 le, .int .i64 wt, .slice ak kn kc, .bool st] := ⟨⟨_, rfl, p1⟩, ⟨_, rfl, p2⟩, ⟨_, rfl, p3⟩, ⟨_, rfl, p4⟩, ⟨_, rfl, p5⟩, p6, ⟨_, rfl⟩, trivial⟩
   have hrl := aK hb2
   have hpl := aK hE
   have rD : (z : Int) < (nr : Int) := by omega
   -- a world with the line laid, then the record's copy
   have Gs : ∀ (q : Nat) (ln : Int), bB .i64 ln → lN B N w (((w.drewN q).setCell ⟨fb, r * 18 + 1, none⟩ (.int .i64 ln)).alloc (.cells (kH p pa pc le wt (.slice ak kn kc) st) 137)) fb (r * 18) ln := fun q ln hl => by
     have h1 := Nl (hw.drewN q) ((Eff.refl _ w).drewN q) hF hsz hl
     exact h1.trans (h1.wt.alloc (c := kH p pa pc le wt (.slice ak kn kc) st) kR (aT.one (hrow.mono h1.aS (Nat.le_refl _)))) (Eff.bL _ _ _)
   have WX : ∀ (q nq : Nat) (ln : Int), bB .i64 ln → lN B N w ((((w.drewN q).alloc (.cells (kH p pa pc le wt (.slice ak kn kc) st) 137)).drewN nq).setCell ⟨fb, r * 18 + 1, none⟩ (.int .i64 ln)) fb (r * 18) ln := fun q nq ln hl =>
     Nl (((hw.drewN q).alloc (c := kH p pa pc le wt (.slice ak kn kc) st) kR (aT.one (hrow.mono ((Eff.refl (fun _ _ _ => False) w).drewN q) (Nat.le_refl _)))).drewN nq) ((((Eff.refl _ w).drewN q).alloc _).drewN nq) hF hsz hl
   have main : ∀ (v : Value), eG w (.slice ap np cp) p v → aU w B N (.sl 125 3) v → (∀ qb m mc, v = .slice (some ⟨qb, 0, none⟩) m mc → ∀ j, j < m → ∃ a : Int, w.cell? ⟨qb, j * 3 + 1, none⟩ = some (.int .i64 a) ∧ 0 ≤ a) →
       Calls Tryz.prog 132 #[.pointer (some ⟨pe, 0, none⟩), .pointer (some ⟨fb, r * 18, none⟩)] w fun e w' => e = .returned (.tuple #[]) ∧ ∃ ln : Int, lN B N w w' fb (r * 18) ln ∧
       ((ln = 23 ∧ ((z : Int) < 0 ∨ (nr : Int) ≤ z)) ∨ (ln ∈ [2, 3, 4, 5, 10, 17] ∧ 0 ≤ (z : Int) ∧ (z : Int) < nr ∧ ((ln = 3 ∨ ln = 5) → iQ w pe rb (z : Int).toNat))) := fun v hv ov hA => by
     by_cases hw1 : wt ≠ -1
     · refine (Sc w pe fb (r * 18) lb n cap rb nr cr np cp ap z nr CE rD hz hrl hpl kn kc ak p pa pc le wt st CR v hv hw1).mono ?_
       rintro _ w' ⟨rfl, q, rfl⟩
       exact ⟨rfl, 2, Gs q 2 (i64_in (by omega)), .inr ⟨by simp, by omega, rD, by omega⟩⟩
     have hw1 : wt = -1 := by omega
     by_cases hpc : pc < 0
     · refine (SB w pe fb (r * 18) lb n cap rb nr cr np cp ap z nr CE rD hz hrl hpl kn kc ak p pa pc le wt st CR v hv hw1 hpc).mono ?_
       rintro _ w' ⟨rfl, q, rfl⟩
       exact ⟨rfl, 17, Gs q 17 (i64_in (by omega)), .inr ⟨by simp, by omega, rD, by omega⟩⟩
     obtain ⟨av, m, mc, hvv⟩ : ∃ av m mc, v = .slice av m mc := by
       rcases df ov with rfl | ⟨b, n, c, cur, rfl, -⟩
       · exact ⟨_, _, _, rfl⟩
       · exact ⟨_, _, _, rfl⟩
     by_cases hpm : (m : Int) ≤ pc
     · refine (QU w pe fb (r * 18) lb n cap rb nr cr np cp ap z nr CE rD hz hrl hpl kn kc ak p pa pc le wt st CR v hv hw1 av m mc hvv (by omega) hpm).mono ?_
       rintro _ w' ⟨rfl, q, rfl⟩
       exact ⟨rfl, 17, Gs q 17 (i64_in (by omega)), .inr ⟨by simp, by omega, rD, by omega⟩⟩
     rcases df ov with h | ⟨qb, m', mc', cq, h, hq1, hq2, hq3, hq4, hq5⟩
     · rw [hvv] at h
       cases h
       omega
     rw [hvv] at h
     cases h
     obtain ⟨y, hy⟩ : ∃ y : Nat, pc = y := ⟨pc.toNat, by omega⟩
     have hym : y < m := by omega
     have hyc : (y + 1) * 3 ≤ cq.size := by rw [hq4]; exact Nat.mul_le_mul_right 3 (by omega)
     obtain ⟨_, e0, op, rfl, -⟩ := bZ hw kI hq1 hq2 (i := y * 3) (j := 0) (by omega) (by show (y * 3) % 3 = 0; omega) rfl
     obtain ⟨A, e1, hA0⟩ := hA qb m mc hvv y hym
     have PI : iQ w pe rb (z : Int).toNat := ⟨y, qb, m, mc, p, .slice ap np cp, by rw [← hy]; exact d2, d0, by rw [← hvp]; exact c9, by rw [← hvv]; exact hv, hym⟩
     by_cases ho : op = 0
     · refine (adb w pe fb (r * 18) lb n cap rb nr cr np cp ap z nr CE rD hz hrl hpl kn kc ak p pa pc le wt st CR v hv hw1 qb m mc y hvv hy hym (aK hq2) op A e0 e1 ho).mono ?_
       rintro _ w' ⟨rfl, q, rfl⟩
       exact ⟨rfl, 3, Gs q 3 (i64_in (by omega)), .inr ⟨by simp, by omega, rD, fun _ => PI⟩⟩
     by_cases ho1 : op = 1
     · refine (adq w pe fb (r * 18) lb n cap rb nr cr np cp ap z nr CE rD hz hrl hpl kn kc ak p pa pc le wt st CR v hv hw1 qb m mc y hvv hy hym (aK hq2) op A e0 e1 ho1).mono ?_
       rintro _ w' ⟨rfl, q, rfl⟩
       exact ⟨rfl, 5, Gs q 5 (i64_in (by omega)), .inr ⟨by simp, by omega, rD, fun _ => PI⟩⟩
     by_cases hA2 : (kn : Int) ≤ A
     · refine (aco w pe fb (r * 18) lb n cap rb nr cr np cp ap z nr CE rD hz hrl hpl kn kc ak p pa pc le wt st CR v hv hw1 qb m mc y hvv hy hym (aK hq2) op A e0 e1 ho ho1 hA2).mono ?_
       rintro _ w' ⟨rfl, q, nq, rfl⟩
       exact ⟨rfl, 4, WX q nq 4 (i64_in (by omega)), .inr ⟨by simp, by omega, rD, by omega⟩⟩
     obtain ⟨a, ha⟩ : ∃ a : Nat, A = a := ⟨A.toNat, by omega⟩
     have hak : a < kn := by omega
     rcases df p6 with h | ⟨kb, kn', kc', ck, h, hk1, hk2, hk3, hk4, hk5⟩
     · cases h
       omega
     cases h
     obtain ⟨_, ek, x, rfl, hxi⟩ := bZ hw (T := 3) (L := [.int .i64]) (by kernel_rfl) hk1 hk2 (i := a) (j := 0) (by omega) (by show a % 1 = 0; omega) rfl
     by_cases hx1 : x = -1
     · refine (Y2 w pe fb (r * 18) lb n cap rb nr cr np cp ap z nr CE rD hz hrl hpl kn kc (some ⟨kb, 0, none⟩) p pa pc le wt st CR v hv hw1 qb m mc y hvv hy hym (aK hq2) op A e0 e1 ho ho1 a kb x rfl ha hak (aK hk2) ek hx1).mono ?_
       rintro _ w' ⟨rfl, q, nq, rfl⟩
       exact ⟨rfl, 4, WX q nq 4 (i64_in (by omega)), .inr ⟨by simp, by omega, rD, by omega⟩⟩
     · refine (ac2 w pe fb (r * 18) lb n cap rb nr cr np cp ap z nr CE rD hz hrl hpl kn kc (some ⟨kb, 0, none⟩) p pa pc le wt st CR v hv hw1 qb m mc y hvv hy hym (aK hq2) op A e0 e1 ho ho1 a kb x rfl ha hak (aK hk2) ek hx1).mono ?_
       rintro _ w' ⟨rfl, q, nq, rfl⟩
       have h2 := WX q nq 10 (i64_in (by omega))
       have hF1 := aR (w := (((w.drewN q).alloc (.cells (kH p pa pc le wt (.slice (some ⟨kb, 0, none⟩) kn kc) st) 137)).drewN nq)) (((((Eff.refl (fun _ _ _ => False) w).drewN q).alloc _).drewN nq).blk hF fun _ _ h => h) (r * 18 + 1) (.int .i64 10)
       exact ⟨rfl, 10, h2.ai1 hF1 hxi, .inr ⟨by simp, by omega, rD, by omega⟩⟩
   by_cases hp : p < 0 ∨ (bO (.slice ap np cp) : Int) ≤ p
   · refine main (.slice none 0 0) (.inl ⟨hp, rfl⟩) ⟨0, [], by omega, World.ownsRow_nil _ _ _ _⟩ (fun qb m mc h => by cases h)
   · simp only [bO] at hp
     obtain ⟨q, rfl⟩ : ∃ q : Nat, p = q := ⟨p.toNat, by omega⟩
     rw [hvp] at o9
     rcases df o9 with h | ⟨pb, np', cp', cpp, h, hp1, hp2, hp3, hp4, hp5⟩
     · cases h
       omega
     cases h
     obtain ⟨v, ev, ov⟩ := bZ hw (T := 123) (L := [.sl 125 3]) (by kernel_rfl) hp1 hp2 (i := q) (j := 0) (by omega) (by show q % 1 = 0; omega) rfl
     exact main v (.inr ⟨q, pb, cp, rfl, by show q < np; omega, rfl, ev⟩) ov (fun qb m mc h j hj => hpg pb np cp hvp q (by omega) qb m mc (by rw [← h]; exact ev) j hj)
end
section
open Go.RowKit
variable {P : Program} {kd : Kd} {w w' : World} {B N : Nat} {L : List CK}
structure I9 (kd : Kd) (e : TypeId) (s B N : Nat) (w : World) (g n : Nat) (news : List Value) (g' cap' : Nat) (w' : World) : Prop where
 wt : WT kd.sig B N w'
 aS : Eff (fun k U j => k = g ∧ n * s ≤ j) w w'
 blk : ∃ c', w'.heap[g']? = some (.cells c' e (0, 0)) ∧ c'.size = cap' * s
 cap : n + 1 ≤ cap'
 max : cap' ≤ maxLen
 at' : g' = g ∨ w.heap.size ≤ g'
 old : ∀ j, j < n * s → w'.cell? ⟨g', j, none⟩ = w.cell? ⟨g, j, none⟩
 new : ∀ j v, news[j]? = some v → w'.cell? ⟨g', n * s + j, none⟩ = some v
 fresh : g' = g ∨ (g' = w.heap.size ∧ Eff (fun _ _ _ => False) w w')
theorem mg {T ty e : TypeId} {i : TypeInfo} {z : Value} (ht : P.underlying T = some (.slice e)) (hi : P.info? e = some i) (hz : i.zero = some z) (hs : i.size = L.length) (hby : i.bytes ≤ 1024) (ig : eZ L z.cells.toList = true) (hL0 : 0 < L.length)
   (hL : kd.sig e = some L) (hw : WT kd.sig B N w) (hBw : B ≤ w.heap.size) {g n cap : Nat} {cur : Array Value} (hg0 : B ≤ g) (hg : w.heap[g]? = some (.cells cur e (0, 0))) (hnc : n ≤ cap) (hcm : cap ≤ maxLen) (hcs : cur.size = cap * L.length) {a : Addr} {c : Nat} {news : List Value} (hn : aT w B N L news.toArray) (hl : news.length = L.length)
   (hc : ∀ j u, news[j]? = some u → w.cell? (a.add j) = some u) (hN : n < 68719476736) :
   ∃ g' cap' w', (Builtin.append_ #[T, T] ty #[.slice (some ⟨g, 0, none⟩) n cap, .slice (some a) 1 c]).run P w = .ok (.slice (some ⟨g', 0, none⟩) (n + 1) cap') w' ∧ I9 kd e L.length B N w g n news g' cap' w' := by
 have h1 : ∀ u ∈ news, u.oneCell' = true := fun u hu => by
   obtain ⟨j, hj⟩ := List.mem_iff_getElem?.1 hu
   obtain ⟨ck, -, o⟩ := hn.2 j u (by simpa using hj)
   exact o.one
 have hl1 : news.length = 1 * L.length := by rw [hl, Nat.one_mul]
 have YZ : n * L.length ≤ cur.size := by rw [hcs]; exact Nat.mul_le_mul_right _ hnc
 have hrow := hw.rows hL hg0 hg
 by_cases hroom : n + 1 ≤ cap
 · have hfit : n * L.length + news.length ≤ cur.size := by rw [hl1, hcs, ← Nat.add_mul]; exact Nat.mul_le_mul_right _ hroom
   have hr := run_append_room (P := P) w T ty e i ht hi g n cap cur hg a 1 c news (by rw [hs]; exact hl1) hc h1 hroom (by rw [hs]; exact hfit)
   rw [hs] at hr
   obtain ⟨cs, NJ⟩ : ∃ cs, cs = (cur.toList.take (n * L.length) ++ news ++ cur.toList.drop (n * L.length + news.length)).toArray := ⟨_, rfl⟩
   rw [← NJ] at hr
   have hsz : cs.size = cur.size := by
     rw [NJ]
     simp only [List.size_toArray, List.length_append, List.length_take, List.length_drop, Array.length_toList]; omega
   have hlow : ∀ j, j < n * L.length → cs[j]? = cur[j]? := fun j hj => by
     rw [NJ]
     simp only [List.getElem?_toArray, List.append_assoc]
     rw [List.getElem?_append_left (by simp; omega), List.getElem?_take, if_pos hj, Array.getElem?_toList]
   have hE0 := F5 hg hsz
   have hE : Eff (fun k U j => k = g ∧ n * L.length ≤ j) w (w.setRow g cs) := by
     refine ⟨rfl, rfl, rfl, by simp [World.setRow], fun k c U f hk => ?_, hE0.other⟩
     by_cases e : k = g
     · subst e
       rw [hg] at hk
       cases hk
       refine ⟨cs, jE hg, hsz, fun j hj => hlow j ?_⟩
       by_cases hjn : j < n * L.length
       · exact hjn
       · exact absurd ⟨rfl, Nat.le_of_not_lt hjn⟩ hj
     · exact ⟨c, by rw [qZ e]; exact hk, rfl, fun _ _ => rfl⟩
   refine ⟨g, cap, _, hr, ?_, hE, ⟨cs, jE hg, hsz.trans hcs⟩, hroom, hcm, .inl rfl, fun j hj => ?_, fun j v hv => ?_, .inl rfl⟩
   · refine hw.Ao hE0 (by simp [World.setRow]) (b := g) (fun k hk => qZ hk) fun c' T' f' L' hB hh YF => ?_
     rw [jE hg] at hh
     cases hh
     rw [hL] at YF
     cases YF
     refine ⟨rfl, aT.mono ?_ hE0 (Nat.le_refl _)⟩
     have hdrop : aT w B N L (cur.toList.drop (n * L.length + news.length)).toArray := by rw [hl1, ← Nat.add_mul]; exact hrow.drop (n := n + 1)
     have h3 := ((hrow.take YZ).app hn).app hdrop
     rw [NJ]
     simpa using h3
   · rw [aa (jE hg), aa hg, hlow j hj]
   · rw [aa (jE hg), NJ]
     have hjl : j < news.length := (List.getElem?_eq_some_iff.1 hv).1
     simp only [List.getElem?_toArray]
     rw [List.getElem?_append_left (by simp; omega), List.getElem?_append_right (by simp; omega)]
     simp only [List.length_take, Array.length_toList]
     rw [show n * L.length + j - min (n * L.length) cur.size = j by omega]
     exact hv
 · obtain ⟨xs, hxs⟩ : ∃ xs, xs = cur.toList.take (n * L.length) := ⟨_, rfl⟩
   have hxl : xs.length = n * L.length := by rw [hxs]; simp; omega
   have holds : ∀ j u, xs[j]? = some u → w.cell? ((⟨g, 0, none⟩ : Addr).add j) = some u := fun j u hu => by
     rw [Go.WideShapes.add_plain, Nat.zero_add, aa hg]
     rw [hxs, List.getElem?_take] at hu
     split at hu
     · rwa [Array.getElem?_toList] at hu
     · cases hu
   have adF : (n + 1) * i.bytes ≤ 140737488355328 := by
     have : (n + 1) * i.bytes ≤ 68719476736 * 1024 := Nat.mul_le_mul (by omega) hby
     omega
   have hr := run_append_grow (P := P) w T ty e i z ht hi hz ⟨g, 0, none⟩ n cap xs (by rw [hs]; exact hxl) holds a 1 c news (by rw [hs]; exact hl1) hc (by omega) (by omega) (growslice_fits (by omega) adF)
   have hxr : aT w B N L xs.toArray := by rw [hxs]; exact hrow.take YZ
   have hzl : L.length = z.cells.size := by simpa using (fJ (B := B) (N := N) ig w).len
   have hgc := grownCap_ge w (n + 1) cap e
   have hgm := grownCap_le_maxLen w (n + 1) cap e (by unfold maxLen; omega)
   obtain ⟨cap', vN⟩ : ∃ cap', cap' = grownCap w (n + 1) cap e := ⟨_, rfl⟩
   rw [← vN] at hr hgc hgm
   have hrr : aT w B N L (xs ++ news).toArray := by simpa using hxr.app hn
   have hE0 : Eff (fun _ _ _ => False) w (w.drew.alloc (.cells ((xs ++ news).toArray ++ Builtin.zeroCells z.cells (cap' - (n + 1))) e)) := (Eff.refl _ _).drew.alloc _
   rw [show xs.toArray ++ news.toArray = (xs ++ news).toArray from by simp] at hr
   have hb : (w.drew.alloc (.cells ((xs ++ news).toArray ++ Builtin.zeroCells z.cells (cap' - (n + 1))) e)).heap[w.heap.size]? = some (.cells ((xs ++ news).toArray ++ Builtin.zeroCells z.cells (cap' - (n + 1))) e (0, 0)) := blk_alloc_new w.drew _
   refine ⟨w.heap.size, cap', _, hr, ?_, hE0.mono fun _ _ _ _ h => h.elim, ⟨_, hb, ?_⟩, hgc, hgm, .inr (Nat.le_refl _), fun j hj => ?_, fun j v hv => ?_, .inr ⟨rfl, hE0⟩⟩
   · refine WT.alloc hw.drew hL ?_
     exact (hrr.app (aT.zeros ig w (cap' - (n + 1)))).mono ((Eff.refl (fun _ _ _ => False) w).drew) (Nat.le_refl _)
   · simp only [Array.size_append, List.size_toArray, size_zeroCells, List.length_append, hxl, hl1, ← hzl]
     rw [← Nat.add_mul, ← Nat.add_mul]; congr 1; omega
   · rw [aa hb, aa hg, Array.getElem?_append_left (by simp; omega)]
     simp only [List.getElem?_toArray]
     rw [List.getElem?_append_left (by omega), hxs, List.getElem?_take, if_pos hj, Array.getElem?_toList]
   · have hjl : j < news.length := (List.getElem?_eq_some_iff.1 hv).1
     rw [aa hb, Array.getElem?_append_left (by simp; omega)]
     simp only [List.getElem?_toArray]
     rw [List.getElem?_append_right (by omega), hxl, Nat.add_sub_cancel_left]
     exact hv
end
end Go.Proofs.YtncnepmgmphanaaGreatDoor
