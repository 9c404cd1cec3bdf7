/- Choose, at the first line: the next line of a frame, told by its case. No condition beside those named. -/
import Derived.Test.YtncnepmgmphanaaGreatDoorMg08
import Derived.BigQuiet
set_option linter.unusedVariables false
set_option linter.unusedSimpArgs false
set_option linter.unusedSectionVars false
namespace Go.Proofs.YtncnepmgmphanaaGreatDoor
open Go.RowKit
variable {B : Nat}
set_option maxRecDepth 100000 in
theorem Task_any (w : World) (pe nr cr : Nat) (ra : Option Addr) (t T : Int) (h3 : w.cell? ⟨pe, 3, none⟩ = some (.int .i64 T)) (h19 : w.cell? ⟨pe, 19, none⟩ = some (.slice ra nr cr)) (b : Bool) (hb : b = true ∧ 0 ≤ t ∧ t < T ∧ t < nr ∨ b = false ∧ (t < 0 ∨ T ≤ t)) :
    Calls Tryz.prog 85 #[.pointer (some ⟨pe, 0, none⟩), .int .i64 t] w fun e w' => e = .returned (.bool b) ∧ w' = w := by
  rcases hb with ⟨rfl, h1, h2, h4⟩ | ⟨rfl, h1 | h1⟩
  · go_enter Tryz.func85, Tryz.ntmps85
    go_wp2_with fail
    go_ret
    exact ⟨rfl, rfl⟩
  · go_enter Tryz.func85, Tryz.ntmps85
    go_wp2_with fail
    go_ret
    exact ⟨rfl, rfl⟩
  · by_cases h0 : 0 ≤ t
    · go_enter Tryz.func85, Tryz.ntmps85
      go_wp2_with fail
      go_ret
      exact ⟨rfl, rfl⟩
    · have h2 : t < 0 := by omega
      go_enter Tryz.func85, Tryz.ntmps85
      go_wp2_with fail
      go_ret
      exact ⟨rfl, rfl⟩
structure ChE (w : World) (pe fb o lb n cap rb nr cr np cp : Nat) (ap : Option Addr) (t T : Int) : Prop where
  l10 : ∃ j : Int, w.cell? ⟨fb, o + 10, none⟩ = some (.int .i64 j)
  fbl : fb < w.heap.size
  f0 : w.frozen? ⟨fb, o + 1, none⟩ = false
  f10 : w.frozen? ⟨fb, o + 10, none⟩ = false
  l1 : w.cell? ⟨fb, o + 1, none⟩ = some (.int .i64 1)
  l17 : w.cell? ⟨fb, o + 17, none⟩ = some (.slice (some ⟨lb, 0, none⟩) (n + 1) cap)
  lt : w.cell? ⟨lb, n, none⟩ = some (.int .i64 t)
  ln : n ≤ 68719476736
  c3 : w.cell? ⟨pe, 3, none⟩ = some (.int .i64 T)
  c9 : w.cell? ⟨pe, 9, none⟩ = some (.slice ap np cp)
  c19 : w.cell? ⟨pe, 19, none⟩ = some (.slice (some ⟨rb, 0, none⟩) nr cr)
set_option maxRecDepth 100000 in
set_option maxHeartbeats 1000000 in
theorem choose_out (w : World) (pe fb o lb n cap rb nr cr np cp : Nat) (ap : Option Addr) (t T : Int) (h : ChE w pe fb o lb n cap rb nr cr np cp ap t T) (ht : t < 0 ∨ T ≤ t) :
    Calls Tryz.prog 132 #[.pointer (some ⟨pe, 0, none⟩), .pointer (some ⟨fb, o, none⟩)] w fun e w' => e = .returned (.tuple #[]) ∧ ∃ q, w' = (w.drewN q).setCell ⟨fb, o + 1, none⟩ (.int .i64 23) := by
  obtain ⟨⟨j0, hj0⟩, h1, h2, h2', h3, h4, h5, h6, h7, h8, h9⟩ := h
  have TP := Lib.hid (top_any w fb o lb n cap t h6 h4 h5)
  have TK := Lib.hid (fun q => Task_any (w.drewN q) pe nr cr (some ⟨rb, 0, none⟩) t T h7 h9 false (.inr ⟨rfl, ht⟩))
  clear h4 h5 h6 h7 h8 h9 ht hj0
  go_enter Tryz.func132, Tryz.ntmps132
  go_wp2_with (first
    | (go_at_call 156; refine TP.out.mono ?_; rintro e w' ⟨rfl, q, rfl⟩)
    | (go_at_call 85; refine (TK.out _).mono ?_; rintro e w' ⟨rfl, rfl⟩))
  exact bodyPost_ret (v := .tuple #[]) (by simp [results, Tryz.results132]) rfl ⟨rfl, q, rfl⟩
structure ChR (w : World) (rb t kn kc : Nat) (ak : Option Addr) (p pa pc le wt : Int) (st : Bool) : Prop where
  c0 : w.cell? ⟨rb, t * 7, none⟩ = some (.int .i64 p)
  c1 : w.cell? ⟨rb, t * 7 + 1, none⟩ = some (.int .i64 pa)
  c2 : w.cell? ⟨rb, t * 7 + 2, none⟩ = some (.int .i64 pc)
  c3 : w.cell? ⟨rb, t * 7 + 3, none⟩ = some (.int .i64 le)
  c4 : w.cell? ⟨rb, t * 7 + 4, none⟩ = some (.int .i64 wt)
  c5 : w.cell? ⟨rb, t * 7 + 5, none⟩ = some (.slice ak kn kc)
  c6 : w.cell? ⟨rb, t * 7 + 6, none⟩ = some (.bool st)
def recRow (p pa pc le wt : Int) (ks : Value) (st : Bool) : Array Value := #[.int .i64 p, .int .i64 pa, .int .i64 pc, .int .i64 le, .int .i64 wt, ks, .bool st]
theorem IsProg.mono {w w' : World} {vp v : Value} {p : Int} (h : IsProg w vp p v) (g : Eff (fun _ _ _ => False) w w') : IsProg w' vp p v := by
  rcases h with hv | ⟨q', pb, cap', e1, e2, e3, e4⟩
  · exact .inl hv
  · exact .inr ⟨q', pb, cap', e1, e2, e3, g.cell e4 (fun _ h => h)⟩
structure ChW (w : World) (pe fb o rb nr cr : Nat) (t : Nat) (kn kc : Nat) (ak : Option Addr) (p pa pc le wt : Int) (st : Bool) (v : Value) : Prop where
  fbl : fb < w.heap.size
  rbl : rb < w.heap.size
  pel : pe < w.heap.size
  f0 : w.frozen? ⟨fb, o + 1, none⟩ = false
  f10 : w.frozen? ⟨fb, o + 10, none⟩ = false
  l1 : w.cell? ⟨fb, o + 1, none⟩ = some (.int .i64 1)
  l10 : ∃ j : Int, w.cell? ⟨fb, o + 10, none⟩ = some (.int .i64 j)
  c19 : w.cell? ⟨pe, 19, none⟩ = some (.slice (some ⟨rb, 0, none⟩) nr cr)
  r : ChR w rb t kn kc ak p pa pc le wt st
  pg : ∀ c, Calls Tryz.prog 157 #[.pointer (some ⟨pe, 0, none⟩), .int .i64 t] (w.alloc c) fun e w' => e = .returned v ∧ w' = w.alloc c
theorem chW {w : World} {pe fb o lb n cap rb nr cr np cp : Nat} {ap : Option Addr} {t : Nat} {T : Int} (h : ChE w pe fb o lb n cap rb nr cr np cp ap t T) (htn : t < nr) (hrl : rb < w.heap.size) (hpl : pe < w.heap.size) {kn kc : Nat} {ak : Option Addr} {p pa pc le wt : Int} {st : Bool} (hr : ChR w rb t kn kc ak p pa pc le wt st) {v : Value} (hv : IsProg w (.slice ap np cp) p v) (q : Nat) : ChW (w.drewN q) pe fb o rb nr cr t kn kc ak p pa pc le wt st v := by
  obtain ⟨⟨j0, hj0⟩, h1, h2, h2', h3, h4, h5, h6, h7, h8, h9⟩ := h
  have E : Eff (fun _ _ _ => False) w (w.drewN q) := (Eff.refl _ w).drewN q
  refine ⟨h1, hrl, hpl, h2, h2', h3, ⟨j0, hj0⟩, h9, ⟨hr.1, hr.2, hr.3, hr.4, hr.5, hr.6, hr.7⟩, fun c => ?_⟩
  have E2 := E.alloc c
  exact program_any ((w.drewN q).alloc c) pe rb nr cr t np cp ap p v (E2.cell h9 fun _ h => h) htn (E2.cell hr.c0 fun _ h => h) (E2.cell h8 fun _ h => h) (hv.mono E2)
set_option maxRecDepth 100000 in
set_option maxHeartbeats 1000000 in
theorem choose_wait (w : World) (pe fb o lb n cap rb nr cr np cp : Nat) (ap : Option Addr) (t : Nat) (T : Int) (h : ChE w pe fb o lb n cap rb nr cr np cp ap t T) (ht : (t : Int) < T) (htn : t < nr) (hrl : rb < w.heap.size) (hpl : pe < w.heap.size)
    (kn kc : Nat) (ak : Option Addr) (p pa pc le wt : Int) (st : Bool) (hr : ChR w rb t kn kc ak p pa pc le wt st) (v : Value) (hv : IsProg w (.slice ap np cp) p v) (hw : wt ≠ -1) :
    Calls Tryz.prog 132 #[.pointer (some ⟨pe, 0, none⟩), .pointer (some ⟨fb, o, none⟩)] w fun e w' => e = .returned (.tuple #[]) ∧ ∃ q, w' = (((w.drewN q).setCell ⟨fb, o + 1, none⟩ (.int .i64 2)).alloc (.cells (recRow p pa pc le wt (.slice ak kn kc) st) 137)) := by
  have CW := Lib.hid (fun q => chW h htn hrl hpl hr hv q)
  obtain ⟨⟨j0, hj0⟩, h1, h2, h2', h3, h4, h5, h6, h7, h8, h9⟩ := h
  have TP := Lib.hid (top_any w fb o lb n cap t h6 h4 h5)
  have TK := Lib.hid (fun q => Task_any (w.drewN q) pe nr cr (some ⟨rb, 0, none⟩) t T h7 h9 true (.inl ⟨rfl, by omega, ht, by omega⟩))
  have hti : (t : Int) < (nr : Int) := by omega
  have ht0 : (0 : Int) ≤ (t : Int) := by omega
  clear h4 h5 h6 h7 h8 h9 ht hv hr h2 h2' hj0
  go_enter Tryz.func132, Tryz.ntmps132
  go_wp2_with (first
    | (go_at_call 156; refine TP.out.mono ?_; rintro e w' ⟨rfl, q, rfl⟩)
    | (go_at_call 85; refine (TK.out _).mono ?_; rintro e w' ⟨rfl, rfl⟩
       obtain ⟨w1, hw1⟩ : ∃ w1, w1 = w.drewN q := ⟨_, rfl⟩
       have C := CW.out q
       rw [← hw1] at C ⊢
       obtain ⟨g1, g2, g3, g4, g5, g7, ⟨j1, g8⟩, g6, ⟨d0, d1, d2, d3, d4, d5, d6⟩, pg⟩ := C
       have PG := Lib.hid pg
       have HW1 := Lib.hid hw1
       clear hw1 pg h1 h3)
    | (go_at_call 157; refine (PG.out _).mono ?_; rintro e w' ⟨rfl, rfl⟩))
  exact bodyPost_end (v := .tuple #[]) (by simp [results, Tryz.results132]) rfl ⟨rfl, q, by rw [← HW1.out]; rfl⟩
set_option maxRecDepth 100000 in
set_option maxHeartbeats 1000000 in
theorem choose_finA (w : World) (pe fb o lb n cap rb nr cr np cp : Nat) (ap : Option Addr) (t : Nat) (T : Int) (h : ChE w pe fb o lb n cap rb nr cr np cp ap t T) (ht : (t : Int) < T) (htn : t < nr) (hrl : rb < w.heap.size) (hpl : pe < w.heap.size)
    (kn kc : Nat) (ak : Option Addr) (p pa pc le wt : Int) (st : Bool) (hr : ChR w rb t kn kc ak p pa pc le wt st) (v : Value) (hv : IsProg w (.slice ap np cp) p v) (hw : wt = -1) (hpc : pc < 0) :
    Calls Tryz.prog 132 #[.pointer (some ⟨pe, 0, none⟩), .pointer (some ⟨fb, o, none⟩)] w fun e w' => e = .returned (.tuple #[]) ∧ ∃ q, w' = (((w.drewN q).setCell ⟨fb, o + 1, none⟩ (.int .i64 17)).alloc (.cells (recRow p pa pc le wt (.slice ak kn kc) st) 137)) := by
  have CW := Lib.hid (fun q => chW h htn hrl hpl hr hv q)
  obtain ⟨⟨j0, hj0⟩, h1, h2, h2', h3, h4, h5, h6, h7, h8, h9⟩ := h
  have TP := Lib.hid (top_any w fb o lb n cap t h6 h4 h5)
  have TK := Lib.hid (fun q => Task_any (w.drewN q) pe nr cr (some ⟨rb, 0, none⟩) t T h7 h9 true (.inl ⟨rfl, by omega, ht, by omega⟩))
  have hti : (t : Int) < (nr : Int) := by omega
  have ht0 : (0 : Int) ≤ (t : Int) := by omega
  clear h4 h5 h6 h7 h8 h9 ht hv hr h2 h2' hj0
  subst hw
  go_enter Tryz.func132, Tryz.ntmps132
  go_wp2_with (first
    | (go_at_call 156; refine TP.out.mono ?_; rintro e w' ⟨rfl, q, rfl⟩)
    | (go_at_call 85; refine (TK.out _).mono ?_; rintro e w' ⟨rfl, rfl⟩
       obtain ⟨w1, hw1⟩ : ∃ w1, w1 = w.drewN q := ⟨_, rfl⟩
       have C := CW.out q
       rw [← hw1] at C ⊢
       obtain ⟨g1, g2, g3, g4, g5, g7, ⟨j1, g8⟩, g6, ⟨d0, d1, d2, d3, d4, d5, d6⟩, pg⟩ := C
       have PG := Lib.hid pg
       have HW1 := Lib.hid hw1
       clear hw1 pg h1 h3)
    | (go_at_call 157; refine (PG.out _).mono ?_; rintro e w' ⟨rfl, rfl⟩))
  exact bodyPost_end (v := .tuple #[]) (by simp [results, Tryz.results132]) rfl ⟨rfl, q, by rw [← HW1.out]; rfl⟩
set_option maxRecDepth 100000 in
set_option maxHeartbeats 1000000 in
theorem choose_finB (w : World) (pe fb o lb n cap rb nr cr np cp : Nat) (ap : Option Addr) (t : Nat) (T : Int) (h : ChE w pe fb o lb n cap rb nr cr np cp ap t T) (ht : (t : Int) < T) (htn : t < nr) (hrl : rb < w.heap.size) (hpl : pe < w.heap.size)
    (kn kc : Nat) (ak : Option Addr) (p pa pc le wt : Int) (st : Bool) (hr : ChR w rb t kn kc ak p pa pc le wt st) (v : Value) (hv : IsProg w (.slice ap np cp) p v) (hw : wt = -1) (av : Option Addr) (m mc : Nat) (hvv : v = .slice av m mc) (hpc : 0 ≤ pc) (hpm : (m : Int) ≤ pc) :
    Calls Tryz.prog 132 #[.pointer (some ⟨pe, 0, none⟩), .pointer (some ⟨fb, o, none⟩)] w fun e w' => e = .returned (.tuple #[]) ∧ ∃ q, w' = (((w.drewN q).setCell ⟨fb, o + 1, none⟩ (.int .i64 17)).alloc (.cells (recRow p pa pc le wt (.slice ak kn kc) st) 137)) := by
  have CW := Lib.hid (fun q => chW h htn hrl hpl hr hv q)
  obtain ⟨⟨j0, hj0⟩, h1, h2, h2', h3, h4, h5, h6, h7, h8, h9⟩ := h
  have TP := Lib.hid (top_any w fb o lb n cap t h6 h4 h5)
  have TK := Lib.hid (fun q => Task_any (w.drewN q) pe nr cr (some ⟨rb, 0, none⟩) t T h7 h9 true (.inl ⟨rfl, by omega, ht, by omega⟩))
  have hti : (t : Int) < (nr : Int) := by omega
  have ht0 : (0 : Int) ≤ (t : Int) := by omega
  clear h4 h5 h6 h7 h8 h9 ht hv hr h2 h2' hj0
  subst hw
  subst hvv
  have hpc2 : ¬ pc < 0 := by omega
  have hpc3 : ¬ pc < (m : Int) := by omega
  go_enter Tryz.func132, Tryz.ntmps132
  go_wp2_with (first
    | (go_at_call 156; refine TP.out.mono ?_; rintro e w' ⟨rfl, q, rfl⟩)
    | (go_at_call 85; refine (TK.out _).mono ?_; rintro e w' ⟨rfl, rfl⟩
       obtain ⟨w1, hw1⟩ : ∃ w1, w1 = w.drewN q := ⟨_, rfl⟩
       have C := CW.out q
       rw [← hw1] at C ⊢
       obtain ⟨g1, g2, g3, g4, g5, g7, ⟨j1, g8⟩, g6, ⟨d0, d1, d2, d3, d4, d5, d6⟩, pg⟩ := C
       have PG := Lib.hid pg
       have HW1 := Lib.hid hw1
       clear hw1 pg h1 h3)
    | (go_at_call 157; refine (PG.out _).mono ?_; rintro e w' ⟨rfl, rfl⟩))
  exact bodyPost_end (v := .tuple #[]) (by simp [results, Tryz.results132]) rfl ⟨rfl, q, by rw [← HW1.out]; rfl⟩
set_option maxRecDepth 100000 in
set_option maxHeartbeats 1000000 in
theorem choose_C (w : World) (pe fb o lb n cap rb nr cr np cp : Nat) (ap : Option Addr) (t : Nat) (T : Int) (h : ChE w pe fb o lb n cap rb nr cr np cp ap t T) (ht : (t : Int) < T) (htn : t < nr) (hrl : rb < w.heap.size) (hpl : pe < w.heap.size)
    (kn kc : Nat) (ak : Option Addr) (p pa pc le wt : Int) (st : Bool) (hr : ChR w rb t kn kc ak p pa pc le wt st) (v : Value) (hv : IsProg w (.slice ap np cp) p v) (hw : wt = -1) (qb m mc z : Nat) (hvv : v = .slice (some ⟨qb, 0, none⟩) m mc) (hz : pc = z) (hzm : z < m) (hql : qb < w.heap.size) (op A : Int) (h0 : w.cell? ⟨qb, z * 3, none⟩ = some (.int .i64 op)) (hA : w.cell? ⟨qb, z * 3 + 1, none⟩ = some (.int .i64 A)) (ho : op = 0) :
    Calls Tryz.prog 132 #[.pointer (some ⟨pe, 0, none⟩), .pointer (some ⟨fb, o, none⟩)] w fun e w' => e = .returned (.tuple #[]) ∧ ∃ q, w' = (((w.drewN q).setCell ⟨fb, o + 1, none⟩ (.int .i64 3)).alloc (.cells (recRow p pa pc le wt (.slice ak kn kc) st) 137)) := by
  have CW := Lib.hid (fun q => chW h htn hrl hpl hr hv q)
  obtain ⟨⟨j0, hj0⟩, h1, h2, h2', h3, h4, h5, h6, h7, h8, h9⟩ := h
  have TP := Lib.hid (top_any w fb o lb n cap t h6 h4 h5)
  have TK := Lib.hid (fun q => Task_any (w.drewN q) pe nr cr (some ⟨rb, 0, none⟩) t T h7 h9 true (.inl ⟨rfl, by omega, ht, by omega⟩))
  have hti : (t : Int) < (nr : Int) := by omega
  have ht0 : (0 : Int) ≤ (t : Int) := by omega
  clear h4 h5 h6 h7 h8 h9 ht hv hr h2 h2' hj0
  subst hw
  subst hvv
  subst hz
  have hpc2 : ¬ (z : Int) < 0 := by omega
  have hpc3 : (z : Int) < (m : Int) := by omega
  have hpc4 : ¬ (m : Int) ≤ (z : Int) := by omega
  have hpc5 : (0 : Int) ≤ (z : Int) := by omega
  have IC : Hid (∀ q, (w.drewN q).cell? ⟨qb, z * 3, none⟩ = some (.int .i64 op) ∧ (w.drewN q).cell? ⟨qb, z * 3 + 1, none⟩ = some (.int .i64 A) ∧ qb < (w.drewN q).heap.size) := Lib.hid (fun q => ⟨h0, hA, hql⟩)
  clear h0 hA hql
  subst ho
  go_enter Tryz.func132, Tryz.ntmps132
  go_wp2_with (first
    | (go_at_call 156; refine TP.out.mono ?_; rintro e w' ⟨rfl, q, rfl⟩)
    | (go_at_call 85; refine (TK.out _).mono ?_; rintro e w' ⟨rfl, rfl⟩
       obtain ⟨w1, hw1⟩ : ∃ w1, w1 = w.drewN q := ⟨_, rfl⟩
       have C := CW.out q
       rw [← hw1] at C ⊢
       obtain ⟨g1, g2, g3, g4, g5, g7, ⟨j1, g8⟩, g6, ⟨d0, d1, d2, d3, d4, d5, d6⟩, pg⟩ := C
       have PG := Lib.hid pg
       have I := IC.out q
       rw [← hw1] at I
       obtain ⟨i0, i1, g9⟩ := I
       have HW1 := Lib.hid hw1
       clear hw1 pg h1 h3)
    | (go_at_call 157; refine (PG.out _).mono ?_; rintro e w' ⟨rfl, rfl⟩))
  exact bodyPost_end (v := .tuple #[]) (by simp [results, Tryz.results132]) rfl ⟨rfl, q, by rw [← HW1.out]; rfl⟩
set_option maxRecDepth 100000 in
set_option maxHeartbeats 1000000 in
theorem choose_S (w : World) (pe fb o lb n cap rb nr cr np cp : Nat) (ap : Option Addr) (t : Nat) (T : Int) (h : ChE w pe fb o lb n cap rb nr cr np cp ap t T) (ht : (t : Int) < T) (htn : t < nr) (hrl : rb < w.heap.size) (hpl : pe < w.heap.size)
    (kn kc : Nat) (ak : Option Addr) (p pa pc le wt : Int) (st : Bool) (hr : ChR w rb t kn kc ak p pa pc le wt st) (v : Value) (hv : IsProg w (.slice ap np cp) p v) (hw : wt = -1) (qb m mc z : Nat) (hvv : v = .slice (some ⟨qb, 0, none⟩) m mc) (hz : pc = z) (hzm : z < m) (hql : qb < w.heap.size) (op A : Int) (h0 : w.cell? ⟨qb, z * 3, none⟩ = some (.int .i64 op)) (hA : w.cell? ⟨qb, z * 3 + 1, none⟩ = some (.int .i64 A)) (ho : op = 1) :
    Calls Tryz.prog 132 #[.pointer (some ⟨pe, 0, none⟩), .pointer (some ⟨fb, o, none⟩)] w fun e w' => e = .returned (.tuple #[]) ∧ ∃ q, w' = (((w.drewN q).setCell ⟨fb, o + 1, none⟩ (.int .i64 5)).alloc (.cells (recRow p pa pc le wt (.slice ak kn kc) st) 137)) := by
  have CW := Lib.hid (fun q => chW h htn hrl hpl hr hv q)
  obtain ⟨⟨j0, hj0⟩, h1, h2, h2', h3, h4, h5, h6, h7, h8, h9⟩ := h
  have TP := Lib.hid (top_any w fb o lb n cap t h6 h4 h5)
  have TK := Lib.hid (fun q => Task_any (w.drewN q) pe nr cr (some ⟨rb, 0, none⟩) t T h7 h9 true (.inl ⟨rfl, by omega, ht, by omega⟩))
  have hti : (t : Int) < (nr : Int) := by omega
  have ht0 : (0 : Int) ≤ (t : Int) := by omega
  clear h4 h5 h6 h7 h8 h9 ht hv hr h2 h2' hj0
  subst hw
  subst hvv
  subst hz
  have hpc2 : ¬ (z : Int) < 0 := by omega
  have hpc3 : (z : Int) < (m : Int) := by omega
  have hpc4 : ¬ (m : Int) ≤ (z : Int) := by omega
  have hpc5 : (0 : Int) ≤ (z : Int) := by omega
  have IC : Hid (∀ q, (w.drewN q).cell? ⟨qb, z * 3, none⟩ = some (.int .i64 op) ∧ (w.drewN q).cell? ⟨qb, z * 3 + 1, none⟩ = some (.int .i64 A) ∧ qb < (w.drewN q).heap.size) := Lib.hid (fun q => ⟨h0, hA, hql⟩)
  clear h0 hA hql
  subst ho
  go_enter Tryz.func132, Tryz.ntmps132
  go_wp2_with (first
    | (go_at_call 156; refine TP.out.mono ?_; rintro e w' ⟨rfl, q, rfl⟩)
    | (go_at_call 85; refine (TK.out _).mono ?_; rintro e w' ⟨rfl, rfl⟩
       obtain ⟨w1, hw1⟩ : ∃ w1, w1 = w.drewN q := ⟨_, rfl⟩
       have C := CW.out q
       rw [← hw1] at C ⊢
       obtain ⟨g1, g2, g3, g4, g5, g7, ⟨j1, g8⟩, g6, ⟨d0, d1, d2, d3, d4, d5, d6⟩, pg⟩ := C
       have PG := Lib.hid pg
       have I := IC.out q
       rw [← hw1] at I
       obtain ⟨i0, i1, g9⟩ := I
       have HW1 := Lib.hid hw1
       clear hw1 pg h1 h3)
    | (go_at_call 157; refine (PG.out _).mono ?_; rintro e w' ⟨rfl, rfl⟩))
  exact bodyPost_end (v := .tuple #[]) (by simp [results, Tryz.results132]) rfl ⟨rfl, q, by rw [← HW1.out]; rfl⟩
end Go.Proofs.YtncnepmgmphanaaGreatDoor

namespace Go.Proofs.YtncnepmgmphanaaGreatDoor
open Go.RowKit
variable {B : Nat}
set_option maxRecDepth 100000 in
set_option maxHeartbeats 1000000 in
theorem choose_N1 (w : World) (pe fb o lb n cap rb nr cr np cp : Nat) (ap : Option Addr) (t : Nat) (T : Int) (h : ChE w pe fb o lb n cap rb nr cr np cp ap t T) (ht : (t : Int) < T) (htn : t < nr) (hrl : rb < w.heap.size) (hpl : pe < w.heap.size)
    (kn kc : Nat) (ak : Option Addr) (p pa pc le wt : Int) (st : Bool) (hr : ChR w rb t kn kc ak p pa pc le wt st) (v : Value) (hv : IsProg w (.slice ap np cp) p v) (hw : wt = -1) (qb m mc z : Nat) (hvv : v = .slice (some ⟨qb, 0, none⟩) m mc) (hz : pc = z) (hzm : z < m) (hql : qb < w.heap.size) (op A : Int) (h0 : w.cell? ⟨qb, z * 3, none⟩ = some (.int .i64 op)) (hA : w.cell? ⟨qb, z * 3 + 1, none⟩ = some (.int .i64 A)) (ho : op ≠ 0) (ho1 : op ≠ 1) (hA2 : (kn : Int) ≤ A) :
    Calls Tryz.prog 132 #[.pointer (some ⟨pe, 0, none⟩), .pointer (some ⟨fb, o, none⟩)] w fun e w' => e = .returned (.tuple #[]) ∧ ∃ q nq, w' = (((w.drewN q).alloc (.cells (recRow p pa pc le wt (.slice ak kn kc) st) 137)).drewN nq).setCell ⟨fb, o + 1, none⟩ (.int .i64 4) := by
  have CW := Lib.hid (fun q => chW h htn hrl hpl hr hv q)
  obtain ⟨⟨j0, hj0⟩, h1, h2, h2', h3, h4, h5, h6, h7, h8, h9⟩ := h
  have TP := Lib.hid (top_any w fb o lb n cap t h6 h4 h5)
  have TK := Lib.hid (fun q => Task_any (w.drewN q) pe nr cr (some ⟨rb, 0, none⟩) t T h7 h9 true (.inl ⟨rfl, by omega, ht, by omega⟩))
  have hti : (t : Int) < (nr : Int) := by omega
  have ht0 : (0 : Int) ≤ (t : Int) := by omega
  clear h4 h5 h6 h7 h8 h9 ht hv hr h2 h2' hj0
  subst hw
  subst hvv
  subst hz
  have hpc2 : ¬ (z : Int) < 0 := by omega
  have hpc3 : (z : Int) < (m : Int) := by omega
  have hpc4 : ¬ (m : Int) ≤ (z : Int) := by omega
  have hpc5 : (0 : Int) ≤ (z : Int) := by omega
  have IC : Hid (∀ q, (w.drewN q).cell? ⟨qb, z * 3, none⟩ = some (.int .i64 op) ∧ (w.drewN q).cell? ⟨qb, z * 3 + 1, none⟩ = some (.int .i64 A) ∧ qb < (w.drewN q).heap.size) := Lib.hid (fun q => ⟨h0, hA, hql⟩)
  clear h0 hA hql
  have hA3 : ¬ A < (kn : Int) := by omega
  go_enter Tryz.func132, Tryz.ntmps132
  go_wp2_with (first
    | (go_at_call 156; refine TP.out.mono ?_; rintro e w' ⟨rfl, q, rfl⟩)
    | (go_at_call 85; refine (TK.out _).mono ?_; rintro e w' ⟨rfl, rfl⟩
       obtain ⟨w1, hw1⟩ : ∃ w1, w1 = w.drewN q := ⟨_, rfl⟩
       have C := CW.out q
       rw [← hw1] at C ⊢
       obtain ⟨g1, g2, g3, g4, g5, g7, ⟨j1, g8⟩, g6, ⟨d0, d1, d2, d3, d4, d5, d6⟩, pg⟩ := C
       have PG := Lib.hid pg
       have I := IC.out q
       rw [← hw1] at I
       obtain ⟨i0, i1, g9⟩ := I
       have HW1 := Lib.hid hw1
       clear hw1 pg h1 h3)
    | (go_at_call 157; refine (PG.out _).mono ?_; rintro e w' ⟨rfl, rfl⟩))
  have eA : (w1.alloc (.cells #[.int .i64 p, .int .i64 pa, .int .i64 z, .int .i64 le, .int .i64 (-1), .slice ak kn kc, .bool st] 137)).cell? ⟨qb, z * 3 + 1, none⟩ = some (.int .i64 A) := Eff.cell (Eff.alloc1 (fun _ _ _ => False) w1 (.cells #[.int .i64 p, .int .i64 pa, .int .i64 z, .int .i64 le, .int .i64 (-1), .slice ak kn kc, .bool st] 137)) i1 (fun _ h => h)
  have hg : decide (A < (kn : Int)) = false := decide_eq_false (by omega)
  go_quiet (fail)
  go_wp2_with fail
  exact bodyPost_end (v := .tuple #[]) (by simp [results, Tryz.results132]) rfl ⟨rfl, q, _, by rw [← HW1.out]; rfl⟩
set_option maxRecDepth 100000 in
set_option maxHeartbeats 1000000 in
theorem choose_N2 (w : World) (pe fb o lb n cap rb nr cr np cp : Nat) (ap : Option Addr) (t : Nat) (T : Int) (h : ChE w pe fb o lb n cap rb nr cr np cp ap t T) (ht : (t : Int) < T) (htn : t < nr) (hrl : rb < w.heap.size) (hpl : pe < w.heap.size)
    (kn kc : Nat) (ak : Option Addr) (p pa pc le wt : Int) (st : Bool) (hr : ChR w rb t kn kc ak p pa pc le wt st) (v : Value) (hv : IsProg w (.slice ap np cp) p v) (hw : wt = -1) (qb m mc z : Nat) (hvv : v = .slice (some ⟨qb, 0, none⟩) m mc) (hz : pc = z) (hzm : z < m) (hql : qb < w.heap.size) (op A : Int) (h0 : w.cell? ⟨qb, z * 3, none⟩ = some (.int .i64 op)) (hA : w.cell? ⟨qb, z * 3 + 1, none⟩ = some (.int .i64 A)) (ho : op ≠ 0) (ho1 : op ≠ 1) (a kb : Nat) (x : Int) (hak : ak = some ⟨kb, 0, none⟩) (hAa : A = a) (hA2 : a < kn) (hkl : kb < w.heap.size) (hx : w.cell? ⟨kb, a, none⟩ = some (.int .i64 x)) (hxx : x = -1) :
    Calls Tryz.prog 132 #[.pointer (some ⟨pe, 0, none⟩), .pointer (some ⟨fb, o, none⟩)] w fun e w' => e = .returned (.tuple #[]) ∧ ∃ q nq, w' = (((w.drewN q).alloc (.cells (recRow p pa pc le wt (.slice ak kn kc) st) 137)).drewN nq).setCell ⟨fb, o + 1, none⟩ (.int .i64 4) := by
  have CW := Lib.hid (fun q => chW h htn hrl hpl hr hv q)
  obtain ⟨⟨j0, hj0⟩, h1, h2, h2', h3, h4, h5, h6, h7, h8, h9⟩ := h
  have TP := Lib.hid (top_any w fb o lb n cap t h6 h4 h5)
  have TK := Lib.hid (fun q => Task_any (w.drewN q) pe nr cr (some ⟨rb, 0, none⟩) t T h7 h9 true (.inl ⟨rfl, by omega, ht, by omega⟩))
  have hti : (t : Int) < (nr : Int) := by omega
  have ht0 : (0 : Int) ≤ (t : Int) := by omega
  clear h4 h5 h6 h7 h8 h9 ht hv hr h2 h2' hj0
  subst hw
  subst hvv
  subst hz
  have hpc2 : ¬ (z : Int) < 0 := by omega
  have hpc3 : (z : Int) < (m : Int) := by omega
  have hpc4 : ¬ (m : Int) ≤ (z : Int) := by omega
  have hpc5 : (0 : Int) ≤ (z : Int) := by omega
  have IC : Hid (∀ q, (w.drewN q).cell? ⟨qb, z * 3, none⟩ = some (.int .i64 op) ∧ (w.drewN q).cell? ⟨qb, z * 3 + 1, none⟩ = some (.int .i64 A) ∧ qb < (w.drewN q).heap.size) := Lib.hid (fun q => ⟨h0, hA, hql⟩)
  clear h0 hA hql
  subst hak
  subst hAa
  have ha1 : (a : Int) < (kn : Int) := by omega
  have ha2 : (0 : Int) ≤ (a : Int) := by omega
  have KC : Hid (∀ q, (w.drewN q).cell? ⟨kb, a, none⟩ = some (.int .i64 x) ∧ kb < (w.drewN q).heap.size) := Lib.hid (fun q => ⟨hx, hkl⟩)
  clear hx hkl
  subst hxx
  go_enter Tryz.func132, Tryz.ntmps132
  go_wp2_with (first
    | (go_at_call 156; refine TP.out.mono ?_; rintro e w' ⟨rfl, q, rfl⟩)
    | (go_at_call 85; refine (TK.out _).mono ?_; rintro e w' ⟨rfl, rfl⟩
       obtain ⟨w1, hw1⟩ : ∃ w1, w1 = w.drewN q := ⟨_, rfl⟩
       have C := CW.out q
       rw [← hw1] at C ⊢
       obtain ⟨g1, g2, g3, g4, g5, g7, ⟨j1, g8⟩, g6, ⟨d0, d1, d2, d3, d4, d5, d6⟩, pg⟩ := C
       have PG := Lib.hid pg
       have I := IC.out q
       rw [← hw1] at I
       obtain ⟨i0, i1, g9⟩ := I
       have K := KC.out q
       rw [← hw1] at K
       obtain ⟨k0, k1⟩ := K
       have HW1 := Lib.hid hw1
       clear hw1 pg h1 h3)
    | (go_at_call 157; refine (PG.out _).mono ?_; rintro e w' ⟨rfl, rfl⟩))
  have eA : (w1.alloc (.cells #[.int .i64 p, .int .i64 pa, .int .i64 z, .int .i64 le, .int .i64 (-1), .slice (some ⟨kb, 0, none⟩) kn kc, .bool st] 137)).cell? ⟨qb, z * 3 + 1, none⟩ = some (.int .i64 a) := Eff.cell (Eff.alloc1 (fun _ _ _ => False) w1 (.cells #[.int .i64 p, .int .i64 pa, .int .i64 z, .int .i64 le, .int .i64 (-1), .slice (some ⟨kb, 0, none⟩) kn kc, .bool st] 137)) i1 (fun _ h => h)
  have eK : (w1.alloc (.cells #[.int .i64 p, .int .i64 pa, .int .i64 z, .int .i64 le, .int .i64 (-1), .slice (some ⟨kb, 0, none⟩) kn kc, .bool st] 137)).cell? ⟨kb, a, none⟩ = some (.int .i64 (-1)) := Eff.cell (Eff.alloc1 (fun _ _ _ => False) w1 (.cells #[.int .i64 p, .int .i64 pa, .int .i64 z, .int .i64 le, .int .i64 (-1), .slice (some ⟨kb, 0, none⟩) kn kc, .bool st] 137)) k0 (fun _ h => h)
  have hg : decide ((a : Int) < (kn : Int)) = true := decide_eq_true ha1
  go_quiet (fail)
  go_wp2_with fail
  exact bodyPost_end (v := .tuple #[]) (by simp [results, Tryz.results132]) rfl ⟨rfl, q, _, by rw [← HW1.out]; rfl⟩
set_option maxRecDepth 100000 in
set_option maxHeartbeats 1000000 in
theorem choose_J (w : World) (pe fb o lb n cap rb nr cr np cp : Nat) (ap : Option Addr) (t : Nat) (T : Int) (h : ChE w pe fb o lb n cap rb nr cr np cp ap t T) (ht : (t : Int) < T) (htn : t < nr) (hrl : rb < w.heap.size) (hpl : pe < w.heap.size)
    (kn kc : Nat) (ak : Option Addr) (p pa pc le wt : Int) (st : Bool) (hr : ChR w rb t kn kc ak p pa pc le wt st) (v : Value) (hv : IsProg w (.slice ap np cp) p v) (hw : wt = -1) (qb m mc z : Nat) (hvv : v = .slice (some ⟨qb, 0, none⟩) m mc) (hz : pc = z) (hzm : z < m) (hql : qb < w.heap.size) (op A : Int) (h0 : w.cell? ⟨qb, z * 3, none⟩ = some (.int .i64 op)) (hA : w.cell? ⟨qb, z * 3 + 1, none⟩ = some (.int .i64 A)) (ho : op ≠ 0) (ho1 : op ≠ 1) (a kb : Nat) (x : Int) (hak : ak = some ⟨kb, 0, none⟩) (hAa : A = a) (hA2 : a < kn) (hkl : kb < w.heap.size) (hx : w.cell? ⟨kb, a, none⟩ = some (.int .i64 x)) (hxx : x ≠ -1) :
    Calls Tryz.prog 132 #[.pointer (some ⟨pe, 0, none⟩), .pointer (some ⟨fb, o, none⟩)] w fun e w' => e = .returned (.tuple #[]) ∧ ∃ q nq, w' = ((((w.drewN q).alloc (.cells (recRow p pa pc le wt (.slice ak kn kc) st) 137)).drewN nq).setCell ⟨fb, o + 1, none⟩ (.int .i64 10)).setCell ⟨fb, o + 10, none⟩ (.int .i64 x) := by
  have CW := Lib.hid (fun q => chW h htn hrl hpl hr hv q)
  obtain ⟨⟨j0, hj0⟩, h1, h2, h2', h3, h4, h5, h6, h7, h8, h9⟩ := h
  have TP := Lib.hid (top_any w fb o lb n cap t h6 h4 h5)
  have TK := Lib.hid (fun q => Task_any (w.drewN q) pe nr cr (some ⟨rb, 0, none⟩) t T h7 h9 true (.inl ⟨rfl, by omega, ht, by omega⟩))
  have hti : (t : Int) < (nr : Int) := by omega
  have ht0 : (0 : Int) ≤ (t : Int) := by omega
  clear h4 h5 h6 h7 h8 h9 ht hv hr h2 h2' hj0
  subst hw
  subst hvv
  subst hz
  have hpc2 : ¬ (z : Int) < 0 := by omega
  have hpc3 : (z : Int) < (m : Int) := by omega
  have hpc4 : ¬ (m : Int) ≤ (z : Int) := by omega
  have hpc5 : (0 : Int) ≤ (z : Int) := by omega
  have IC : Hid (∀ q, (w.drewN q).cell? ⟨qb, z * 3, none⟩ = some (.int .i64 op) ∧ (w.drewN q).cell? ⟨qb, z * 3 + 1, none⟩ = some (.int .i64 A) ∧ qb < (w.drewN q).heap.size) := Lib.hid (fun q => ⟨h0, hA, hql⟩)
  clear h0 hA hql
  subst hak
  subst hAa
  have ha1 : (a : Int) < (kn : Int) := by omega
  have ha2 : (0 : Int) ≤ (a : Int) := by omega
  have KC : Hid (∀ q, (w.drewN q).cell? ⟨kb, a, none⟩ = some (.int .i64 x) ∧ kb < (w.drewN q).heap.size) := Lib.hid (fun q => ⟨hx, hkl⟩)
  clear hx hkl
  go_enter Tryz.func132, Tryz.ntmps132
  go_wp2_with (first
    | (go_at_call 156; refine TP.out.mono ?_; rintro e w' ⟨rfl, q, rfl⟩)
    | (go_at_call 85; refine (TK.out _).mono ?_; rintro e w' ⟨rfl, rfl⟩
       obtain ⟨w1, hw1⟩ : ∃ w1, w1 = w.drewN q := ⟨_, rfl⟩
       have C := CW.out q
       rw [← hw1] at C ⊢
       obtain ⟨g1, g2, g3, g4, g5, g7, ⟨j1, g8⟩, g6, ⟨d0, d1, d2, d3, d4, d5, d6⟩, pg⟩ := C
       have PG := Lib.hid pg
       have I := IC.out q
       rw [← hw1] at I
       obtain ⟨i0, i1, g9⟩ := I
       have K := KC.out q
       rw [← hw1] at K
       obtain ⟨k0, k1⟩ := K
       have HW1 := Lib.hid hw1
       clear hw1 pg h1 h3)
    | (go_at_call 157; refine (PG.out _).mono ?_; rintro e w' ⟨rfl, rfl⟩))
  have eA : (w1.alloc (.cells #[.int .i64 p, .int .i64 pa, .int .i64 z, .int .i64 le, .int .i64 (-1), .slice (some ⟨kb, 0, none⟩) kn kc, .bool st] 137)).cell? ⟨qb, z * 3 + 1, none⟩ = some (.int .i64 a) := Eff.cell (Eff.alloc1 (fun _ _ _ => False) w1 (.cells #[.int .i64 p, .int .i64 pa, .int .i64 z, .int .i64 le, .int .i64 (-1), .slice (some ⟨kb, 0, none⟩) kn kc, .bool st] 137)) i1 (fun _ h => h)
  have eK : (w1.alloc (.cells #[.int .i64 p, .int .i64 pa, .int .i64 z, .int .i64 le, .int .i64 (-1), .slice (some ⟨kb, 0, none⟩) kn kc, .bool st] 137)).cell? ⟨kb, a, none⟩ = some (.int .i64 x) := Eff.cell (Eff.alloc1 (fun _ _ _ => False) w1 (.cells #[.int .i64 p, .int .i64 pa, .int .i64 z, .int .i64 le, .int .i64 (-1), .slice (some ⟨kb, 0, none⟩) kn kc, .bool st] 137)) k0 (fun _ h => h)
  have hg : decide ((a : Int) < (kn : Int)) = true := decide_eq_true ha1
  go_quiet (fail)
  go_wp2_with fail
  go_region_with (fail)
  all_goals
    go_wp2_with fail
    exact bodyPost_end (v := .tuple #[]) (by simp [results, Tryz.results132]) rfl ⟨rfl, q, _, by rw [← HW1.out]; rfl⟩
end Go.Proofs.YtncnepmgmphanaaGreatDoor
