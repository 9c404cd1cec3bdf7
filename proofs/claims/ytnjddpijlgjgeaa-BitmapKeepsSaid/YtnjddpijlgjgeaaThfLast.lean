/- The law ThiefLast of chapter 10, walked. (Written by wip/gen_thieflast.py.) -/
import Derived.Test.YtnjddpijlgjgeaaThfAwake
import Derived.Test.YtnjddpijlgjgeaaThiefLastP
namespace Go.Proofs.Ytnjddpijlgjgeaa
open Go.RowKit
set_option linter.unusedVariables false

/-- Where all lies, apart and new. -/
structure Dist2 (w0 : World) (px py en m bc ck : Nat) : Prop where
  ax : Apart px en m bc
  ay : Apart py en m bc
  cx : ck ≠ px
  cy : ck ≠ py
  xy : px ≠ py
  n1 : w0.heap.size ≤ px
  n2 : w0.heap.size ≤ py
  n3 : w0.heap.size ≤ m
  n4 : w0.heap.size ≤ bc

/-- The state of the two machines, their environment, what is known. -/
structure TLW (w0 : World) (px py en m bc ck t0 : Nat) (e : Int) (x y : K) (s : MS) (t : Nat) (L : List Int) (res : Option Int) (wr : World) : Prop where
  T : TL 3 t0 e x y s t L res
  yk : y.kind = 2
  hx : wr.heap[px]? = some (machO x)
  hy : wr.heap[py]? = some (machO y)
  E : EnvAt wr en m bc ck s 0
  sok : s.ok
  xok : x.over = false → x.ok
  yok : y.over = false → y.ok
  o : Only [] w0 wr

theorem TLW.goX {w0 : World} {px py en m bc ck t0 : Nat} {e : Int} {x y : K} {s : MS} {t : Nat} {L : List Int} {res : Option Int} {wr : World} (h : TLW w0 px py en m bc ck t0 e x y s t L res wr) (D : Dist2 w0 px py en m bc ck) (hb : t0 ≤ 9223372036854775807) (hn : s.count ≤ 4000000000000000000) :
    Calls Try.prog 107 #[.pointer (some ⟨px, 0, none⟩), .pointer (some ⟨en, 0, none⟩)] wr fun e' w' => e' = .returned (.bool (stepK x s).1.over) ∧ Only [px, m, bc] wr w' ∧ ∃ t' L' res', TLW w0 px py en m bc ck t0 e (stepK x s).1 y (stepK x s).2 t' L' res' w' := by
  refine (show Calls Try.prog 107 _ _ _ from step_kd 1 wr px en m bc ck x s 0 h.T.xk (by omega) h.xok h.E D.ax D.cx h.hx hn (k' := (stepK x s).1) (s' := (stepK x s).2) rfl).mono ?_
  rintro e' w' ⟨h1, h2, h3, h4⟩
  obtain ⟨t', L', res', hT⟩ := h.T.stepX (by omega)
  refine ⟨h1, h2, t', L', res', hT, h.yk, h3, h2.keep h.hy (by have := D.ay.pm; have := D.ay.pc; have := D.xy; simp; omega), h4, ?_, ?_, h.yok, h.o.trans h2 (by have := D.n1; have := D.n3; have := D.n4; simp; omega)⟩
  · cases ho : x.over with
    | true => rw [stepK_over ho]; exact h.sok
    | false => exact stepK_mok h.sok (h.xok ho)
  · intro ho
    cases ho2 : x.over with
    | true => rw [stepK_over ho2, ho2] at ho; cases ho
    | false => exact stepK_ok h.sok (h.xok ho2) ho

theorem TLW.goY {w0 : World} {px py en m bc ck t0 : Nat} {e : Int} {x y : K} {s : MS} {t : Nat} {L : List Int} {res : Option Int} {wr : World} (h : TLW w0 px py en m bc ck t0 e x y s t L res wr) (D : Dist2 w0 px py en m bc ck) (hb : t0 ≤ 9223372036854775807) (hn : s.count ≤ 4000000000000000000) :
    Calls Try.prog 112 #[.pointer (some ⟨py, 0, none⟩), .pointer (some ⟨en, 0, none⟩)] wr fun e' w' => e' = .returned (.bool (stepK y s).1.over) ∧ Only [py, m, bc] wr w' ∧ ∃ t' L' res', TLW w0 px py en m bc ck t0 e x (stepK y s).1 (stepK y s).2 t' L' res' w' := by
  refine (show Calls Try.prog 112 _ _ _ from step_kd 2 wr py en m bc ck y s 0 h.yk (by omega) h.yok h.E D.ay D.cy h.hy hn (k' := (stepK y s).1) (s' := (stepK y s).2) rfl).mono ?_
  rintro e' w' ⟨h1, h2, h3, h4⟩
  obtain ⟨t', L', res', hT⟩ := h.T.stepY (by omega)
  refine ⟨h1, h2, t', L', res', hT, (stepK_same y s).1.trans h.yk, h2.keep h.hx (by have := D.ax.pm; have := D.ax.pc; have := D.xy; simp; omega), h3, h4, ?_, h.xok, ?_, h.o.trans h2 (by have := D.n2; have := D.n3; have := D.n4; simp; omega)⟩
  · cases ho : y.over with
    | true => rw [stepK_over ho]; exact h.sok
    | false => exact stepK_mok h.sok (h.yok ho)
  · intro ho
    cases ho2 : y.over with
    | true => rw [stepK_over ho2, ho2] at ho; cases ho
    | false => exact stepK_ok h.sok (h.yok ho2) ho

/-- A machine that has made n steps is done or in a line behind n. -/
def Far (k : K) (n : Nat) : Prop := k.over = true ∨ n + 1 ≤ k.line
theorem Far.step {k : K} {s : MS} {n : Nat} (h : Far k n) (hok : k.over = false → k.ok) : Far (stepK k s).1 (n + 1) := by
  cases ho : k.over with
  | true => rw [stepK_over ho]; exact .inl ho
  | false =>
    rcases stepK_line (s := s) ho (hok ho).line.1 with h1 | h1
    · exact .inl h1
    · rcases h with h2 | h2
      · rw [ho] at h2; cases h2
      · exact .inr (by omega)
theorem Far.over {k : K} {n : Nat} (h : Far k n) (hok : k.over = false → k.ok) (hn : 9 ≤ n) : k.over = true := by
  cases ho : k.over with
  | true => rfl
  | false =>
    rcases h with h2 | h2
    · rw [ho] at h2; exact h2
    · have := (hok ho).line.2; omega

/-- What the loops carry. -/
def TLInv (w0 : World) (px py en m bc ck t0 : Nat) (e : Int) (n : Int) (f : Nat) (wr : World) : Prop := ∃ x y s t L res, TLW w0 px py en m bc ck t0 e x y s t L res wr ∧ s.count ≤ n ∧ Far x f ∧ Far y f

theorem TLInv.goX {w0 : World} {px py en m bc ck t0 : Nat} {e n : Int} {wr : World} (h : TLInv w0 px py en m bc ck t0 e n 0 wr) (D : Dist2 w0 px py en m bc ck) (hb : t0 ≤ 9223372036854775807) (hn : n ≤ 3000000000000000000) :
    Calls Try.prog 107 #[.pointer (some ⟨px, 0, none⟩), .pointer (some ⟨en, 0, none⟩)] wr fun e' w' => ∃ b, e' = .returned (.bool b) ∧ Only [px, m, bc] wr w' ∧ TLInv w0 px py en m bc ck t0 e (n + 1) 0 w' := by
  obtain ⟨x, y, s, t, L, res, h, hc, f1, f2⟩ := h
  refine (h.goX D hb (by omega)).mono ?_
  rintro e' w' ⟨h1, h2, t', L', res', h3⟩
  have := (stepK_count x s).2
  refine ⟨_, h1, h2, _, _, _, _, _, _, h3, by omega, ?_, f2⟩
  have := f1.step (s := s) h.xok
  rcases this with h | h
  · exact .inl h
  · exact .inr (by omega)
theorem TLInv.goY {w0 : World} {px py en m bc ck t0 : Nat} {e n : Int} {wr : World} (h : TLInv w0 px py en m bc ck t0 e n 0 wr) (D : Dist2 w0 px py en m bc ck) (hb : t0 ≤ 9223372036854775807) (hn : n ≤ 3000000000000000000) :
    Calls Try.prog 112 #[.pointer (some ⟨py, 0, none⟩), .pointer (some ⟨en, 0, none⟩)] wr fun e' w' => ∃ b, e' = .returned (.bool b) ∧ Only [py, m, bc] wr w' ∧ TLInv w0 px py en m bc ck t0 e (n + 1) 0 w' := by
  obtain ⟨x, y, s, t, L, res, h, hc, f1, f2⟩ := h
  refine (h.goY D hb (by omega)).mono ?_
  rintro e' w' ⟨h1, h2, t', L', res', h3⟩
  have := (stepK_count y s).2
  refine ⟨_, h1, h2, _, _, _, _, _, _, h3, by omega, f1, ?_⟩
  have := f2.step (s := s) h.yok
  rcases this with h | h
  · exact .inl h
  · exact .inr (by omega)

/-- Half a round of the second loop. -/
def TLHalf (w0 : World) (px py en m bc ck t0 : Nat) (e : Int) (n : Int) (f : Nat) (wr : World) : Prop := ∃ x y s t L res, TLW w0 px py en m bc ck t0 e x y s t L res wr ∧ s.count ≤ n ∧ Far x (f + 1) ∧ Far y f
theorem TLInv.half {w0 : World} {px py en m bc ck t0 f : Nat} {e n : Int} {wr : World} (h : TLInv w0 px py en m bc ck t0 e n f wr) (D : Dist2 w0 px py en m bc ck) (hb : t0 ≤ 9223372036854775807) (hn : n ≤ 3000000000000000000) :
    Calls Try.prog 107 #[.pointer (some ⟨px, 0, none⟩), .pointer (some ⟨en, 0, none⟩)] wr fun e' w' => ∃ b, e' = .returned (.bool b) ∧ Only [px, m, bc] wr w' ∧ TLHalf w0 px py en m bc ck t0 e (n + 1) f w' := by
  obtain ⟨x, y, s, t, L, res, h, hc, f1, f2⟩ := h
  refine (h.goX D hb (by omega)).mono ?_
  rintro e' w' ⟨h1, h2, t', L', res', h3⟩
  have := (stepK_count x s).2
  exact ⟨_, h1, h2, _, _, _, _, _, _, h3, by omega, f1.step (s := s) h.xok, f2⟩
theorem TLHalf.whole {w0 : World} {px py en m bc ck t0 f : Nat} {e n : Int} {wr : World} (h : TLHalf w0 px py en m bc ck t0 e n f wr) (D : Dist2 w0 px py en m bc ck) (hb : t0 ≤ 9223372036854775807) (hn : n ≤ 3000000000000000000) :
    Calls Try.prog 112 #[.pointer (some ⟨py, 0, none⟩), .pointer (some ⟨en, 0, none⟩)] wr fun e' w' => ∃ b, e' = .returned (.bool b) ∧ Only [py, m, bc] wr w' ∧ TLInv w0 px py en m bc ck t0 e (n + 1) (f + 1) w' := by
  obtain ⟨x, y, s, t, L, res, h, hc, f1, f2⟩ := h
  refine (h.goY D hb (by omega)).mono ?_
  rintro e' w' ⟨h1, h2, t', L', res', h3⟩
  have := (stepK_count y s).2
  exact ⟨_, h1, h2, _, _, _, _, _, _, h3, by omega, f1, f2.step (s := s) h.yok⟩

theorem TLInv.fin {w0 : World} {px py en m bc ck t0 f : Nat} {e n : Int} {wr : World} (h : TLInv w0 px py en m bc ck t0 e n f wr) (hf : 9 ≤ f) (he : 0 ≤ e ∧ e < 1000) : Only [] w0 wr ∧ ∃ xc xv yc yv : Int, (wr.cell? ⟨px, 1, none⟩ = some (.int .i64 xc) ∧ wr.cell? ⟨px, 2, none⟩ = some (.int .i64 xv)) ∧ (wr.cell? ⟨py, 1, none⟩ = some (.int .i64 yc) ∧ wr.cell? ⟨py, 2, none⟩ = some (.int .i64 yv)) ∧
    ((xc = 1 ∧ xv = e ∧ (yc == 1) = false) ∨ (yc = 1 ∧ yv = e ∧ (xc == 1) = false)) := by
  obtain ⟨x, y, s, t, L, res, h, hc, f1, f2⟩ := h
  have ex : rdI e = e := back e (by omega)
  obtain ⟨_, x1, x2⟩ := mach_cells h.hx
  obtain ⟨_, y1, y2⟩ := mach_cells h.hy
  refine ⟨h.o, x.code, x.val, y.code, y.val, ⟨x1, x2⟩, ⟨y1, y2⟩, ?_⟩
  rcases h.T.fin (f1.over h.xok hf) (f2.over h.yok hf) with ⟨a, b, c⟩ | ⟨a, b, c⟩
  · exact .inl ⟨a, by rw [b, ex], by simpa using c⟩
  · exact .inr ⟨a, by rw [b, ex], by simpa using c⟩
end Go.Proofs.Ytnjddpijlgjgeaa
