/- Four machines on one deque in the world. (Written by wip/gen_bitkeeps.py.) -/
import Derived.Test.YtnjddpijlgjgeaaBitKeepsP
namespace Go.Proofs.Ytnjddpijlgjgeaa
open Go.RowKit
set_option linter.unusedVariables false

structure Dist4 (w0 : World) (p1 p2 p3 p4 en m bc ck : Nat) : Prop where
  a1 : Apart p1 en m bc
  a2 : Apart p2 en m bc
  a3 : Apart p3 en m bc
  a4 : Apart p4 en m bc
  c1 : ck ≠ p1
  c2 : ck ≠ p2
  c3 : ck ≠ p3
  c4 : ck ≠ p4
  x12 : p1 < p2
  x23 : p2 < p3
  x34 : p3 < p4
  n1 : w0.heap.size ≤ p1
  nm : w0.heap.size ≤ m
  nb : w0.heap.size ≤ bc

structure BKW (w0 : World) (p1 p2 p3 p4 en m bc ck k0 : Nat) (b : Int) (P S C Y : K) (s : MS) (t : Nat) (L : List Int) (wr : World) : Prop where
  T : BK k0 b P S C Y s t L
  h1 : wr.heap[p1]? = some (machO P)
  h2 : wr.heap[p2]? = some (machO S)
  h3 : wr.heap[p3]? = some (machO C)
  h4 : wr.heap[p4]? = some (machO Y)
  E : EnvAt wr en m bc ck s 0
  sok : s.ok
  ok1 : P.over = false → P.ok
  ok2 : S.over = false → S.ok
  ok3 : C.over = false → C.ok
  ok4 : Y.over = false → Y.ok
  o : Only [] w0 wr

theorem step_mok {k : K} {s : MS} (hs : s.ok) (hk : k.over = false → k.ok) : (stepK k s).2.ok := by
  cases ho : k.over with
  | true => rw [stepK_over ho]; exact hs
  | false => exact stepK_mok hs (hk ho)
theorem step_kok {k : K} {s : MS} (hs : s.ok) (hk : k.over = false → k.ok) : (stepK k s).1.over = false → (stepK k s).1.ok := by
  intro ho
  cases ho2 : k.over with
  | true => rw [stepK_over ho2, ho2] at ho; cases ho
  | false => exact stepK_ok hs (hk ho2) ho

def BKInv (w0 : World) (p1 p2 p3 p4 en m bc ck k0 : Nat) (b n : Int) (f0 f1 : Nat) (pb : Bool) (wr : World) : Prop := ∃ P S C Y s t L, BKW w0 p1 p2 p3 p4 en m bc ck k0 b P S C Y s t L wr ∧ s.count ≤ n ∧ Prog P S f0 ∧ Far C f1 ∧ P.over = pb

theorem BKInv.less {w0 : World} {p1 p2 p3 p4 en m bc ck k0 : Nat} {b n : Int} {f0 f1 g0 g1 : Nat} {pb : Bool} {wr : World} (h : BKInv w0 p1 p2 p3 p4 en m bc ck k0 b n f0 f1 pb wr) (h0 : g0 ≤ f0) (h1 : g1 ≤ f1) : BKInv w0 p1 p2 p3 p4 en m bc ck k0 b n g0 g1 pb wr := by
  obtain ⟨P, S, C, Y, s, t, L, a, c, d, e, f⟩ := h
  exact ⟨P, S, C, Y, s, t, L, a, c, d.less h0, e.less h1, f⟩

theorem BKInv.goP {w0 : World} {p1 p2 p3 p4 en m bc ck k0 : Nat} {b n : Int} {f0 f1 : Nat} {wr : World} (h : BKInv w0 p1 p2 p3 p4 en m bc ck k0 b n f0 f1 false wr) (D : Dist4 w0 p1 p2 p3 p4 en m bc ck) (hk0 : k0 ≤ 2) (hb : 0 ≤ b ∧ b < 64) (hn : n ≤ 3000000000000000000) :
    Calls Try.prog 100 #[.pointer (some ⟨p1, 0, none⟩), .pointer (some ⟨en, 0, none⟩)] wr fun e' w' => ∃ b', e' = .returned (.bool b') ∧ BKInv w0 p1 p2 p3 p4 en m bc ck k0 b (n + 1) (f0 + 1) f1 b' w' := by
  obtain ⟨P, S, C, Y, s, t, L, h, hc, fpr, far, fp⟩ := h
  refine (show Calls Try.prog 100 _ _ _ from step_kd 0 wr p1 en m bc ck P s 0 h.T.pk (by omega) h.ok1 h.E D.a1 D.c1 h.h1 (by omega) (k' := (stepK P s).1) (s' := (stepK P s).2) rfl).mono ?_
  rintro e' w' ⟨w1, w2, w3, w4⟩
  obtain ⟨t', L', hT⟩ := h.T.goP hk0
  have hcn := (stepK_count P s).2
  refine ⟨_, w1, (stepK P s).1, S, C, Y, _, t', L', ⟨hT, w3, (w2.keep h.h2 (by have := D.a2.pm; have := D.a2.pc; have := D.x12; have := D.x23; have := D.x34; simp; omega)), (w2.keep h.h3 (by have := D.a3.pm; have := D.a3.pc; have := D.x12; have := D.x23; have := D.x34; simp; omega)), (w2.keep h.h4 (by have := D.a4.pm; have := D.a4.pc; have := D.x12; have := D.x23; have := D.x34; simp; omega)), w4, step_mok h.sok h.ok1, step_kok h.sok h.ok1, h.ok2, h.ok3, h.ok4, h.o.trans w2 (by have := D.n1; have := D.nm; have := D.nb; have := D.x12; have := D.x23; have := D.x34; simp; omega)⟩, by omega, fpr.goP fp (h.ok1 fp), far, rfl⟩

theorem BKInv.goS {w0 : World} {p1 p2 p3 p4 en m bc ck k0 : Nat} {b n : Int} {f0 f1 : Nat} {wr : World} (h : BKInv w0 p1 p2 p3 p4 en m bc ck k0 b n f0 f1 true wr) (D : Dist4 w0 p1 p2 p3 p4 en m bc ck) (hk0 : k0 ≤ 2) (hb : 0 ≤ b ∧ b < 64) (hn : n ≤ 3000000000000000000) :
    Calls Try.prog 114 #[.pointer (some ⟨p2, 0, none⟩), .pointer (some ⟨en, 0, none⟩)] wr fun e' w' => ∃ b', e' = .returned (.bool b') ∧ BKInv w0 p1 p2 p3 p4 en m bc ck k0 b (n + 1) (f0 + 1) f1 true w' := by
  obtain ⟨P, S, C, Y, s, t, L, h, hc, fpr, far, fp⟩ := h
  refine (show Calls Try.prog 114 _ _ _ from step_kd 3 wr p2 en m bc ck S s 0 h.T.sk.1 (by omega) h.ok2 h.E D.a2 D.c2 h.h2 (by omega) (k' := (stepK S s).1) (s' := (stepK S s).2) rfl).mono ?_
  rintro e' w' ⟨w1, w2, w3, w4⟩
  obtain ⟨t', L', hT⟩ : ∃ t' L', BK k0 b P (stepK S s).1 C Y (stepK S s).2 t' L' := ⟨t, L, h.T.goS hb fp⟩
  have hcn := (stepK_count S s).2
  refine ⟨_, w1, P, (stepK S s).1, C, Y, _, t', L', ⟨hT, (w2.keep h.h1 (by have := D.a1.pm; have := D.a1.pc; have := D.x12; have := D.x23; have := D.x34; simp; omega)), w3, (w2.keep h.h3 (by have := D.a3.pm; have := D.a3.pc; have := D.x12; have := D.x23; have := D.x34; simp; omega)), (w2.keep h.h4 (by have := D.a4.pm; have := D.a4.pc; have := D.x12; have := D.x23; have := D.x34; simp; omega)), w4, step_mok h.sok h.ok2, h.ok1, step_kok h.sok h.ok2, h.ok3, h.ok4, h.o.trans w2 (by have := D.n1; have := D.nm; have := D.nb; have := D.x12; have := D.x23; have := D.x34; simp; omega)⟩, by omega, Prog.goS h.T.sk.1, far, fp⟩

theorem BKInv.goC {w0 : World} {p1 p2 p3 p4 en m bc ck k0 : Nat} {b n : Int} {f0 f1 : Nat} {pb : Bool} {wr : World} (h : BKInv w0 p1 p2 p3 p4 en m bc ck k0 b n f0 f1 pb wr) (D : Dist4 w0 p1 p2 p3 p4 en m bc ck) (hk0 : k0 ≤ 2) (hb : 0 ≤ b ∧ b < 64) (hn : n ≤ 3000000000000000000) :
    Calls Try.prog 119 #[.pointer (some ⟨p3, 0, none⟩), .pointer (some ⟨en, 0, none⟩)] wr fun e' w' => ∃ b', e' = .returned (.bool b') ∧ BKInv w0 p1 p2 p3 p4 en m bc ck k0 b (n + 1) f0 (f1 + 1) pb w' := by
  obtain ⟨P, S, C, Y, s, t, L, h, hc, fpr, far, fp⟩ := h
  refine (show Calls Try.prog 119 _ _ _ from step_kd 4 wr p3 en m bc ck C s 0 h.T.ck.1 (by omega) h.ok3 h.E D.a3 D.c3 h.h3 (by omega) (k' := (stepK C s).1) (s' := (stepK C s).2) rfl).mono ?_
  rintro e' w' ⟨w1, w2, w3, w4⟩
  obtain ⟨t', L', hT⟩ : ∃ t' L', BK k0 b P S (stepK C s).1 Y (stepK C s).2 t' L' := ⟨t, L, h.T.goC hb⟩
  have hcn := (stepK_count C s).2
  refine ⟨_, w1, P, S, (stepK C s).1, Y, _, t', L', ⟨hT, (w2.keep h.h1 (by have := D.a1.pm; have := D.a1.pc; have := D.x12; have := D.x23; have := D.x34; simp; omega)), (w2.keep h.h2 (by have := D.a2.pm; have := D.a2.pc; have := D.x12; have := D.x23; have := D.x34; simp; omega)), w3, (w2.keep h.h4 (by have := D.a4.pm; have := D.a4.pc; have := D.x12; have := D.x23; have := D.x34; simp; omega)), w4, step_mok h.sok h.ok3, h.ok1, h.ok2, step_kok h.sok h.ok3, h.ok4, h.o.trans w2 (by have := D.n1; have := D.nm; have := D.nb; have := D.x12; have := D.x23; have := D.x34; simp; omega)⟩, by omega, fpr, far.step h.ok3, fp⟩

theorem BKInv.goY {w0 : World} {p1 p2 p3 p4 en m bc ck k0 : Nat} {b n : Int} {f0 f1 : Nat} {pb : Bool} {wr : World} (h : BKInv w0 p1 p2 p3 p4 en m bc ck k0 b n f0 f1 pb wr) (D : Dist4 w0 p1 p2 p3 p4 en m bc ck) (hk0 : k0 ≤ 2) (hb : 0 ≤ b ∧ b < 64) (hn : n ≤ 3000000000000000000) :
    Calls Try.prog 112 #[.pointer (some ⟨p4, 0, none⟩), .pointer (some ⟨en, 0, none⟩)] wr fun e' w' => ∃ b', e' = .returned (.bool b') ∧ BKInv w0 p1 p2 p3 p4 en m bc ck k0 b (n + 1) f0 f1 pb w' := by
  obtain ⟨P, S, C, Y, s, t, L, h, hc, fpr, far, fp⟩ := h
  refine (show Calls Try.prog 112 _ _ _ from step_kd 2 wr p4 en m bc ck Y s 0 h.T.yk (by omega) h.ok4 h.E D.a4 D.c4 h.h4 (by omega) (k' := (stepK Y s).1) (s' := (stepK Y s).2) rfl).mono ?_
  rintro e' w' ⟨w1, w2, w3, w4⟩
  obtain ⟨t', L', hT⟩ := h.T.goY
  have hcn := (stepK_count Y s).2
  refine ⟨_, w1, P, S, C, (stepK Y s).1, _, t', L', ⟨hT, (w2.keep h.h1 (by have := D.a1.pm; have := D.a1.pc; have := D.x12; have := D.x23; have := D.x34; simp; omega)), (w2.keep h.h2 (by have := D.a2.pm; have := D.a2.pc; have := D.x12; have := D.x23; have := D.x34; simp; omega)), (w2.keep h.h3 (by have := D.a3.pm; have := D.a3.pc; have := D.x12; have := D.x23; have := D.x34; simp; omega)), w3, w4, step_mok h.sok h.ok4, h.ok1, h.ok2, h.ok3, step_kok h.sok h.ok4, h.o.trans w2 (by have := D.n1; have := D.nm; have := D.nb; have := D.x12; have := D.x23; have := D.x34; simp; omega)⟩, by omega, fpr, far, fp⟩

theorem BKInv.fin {w0 : World} {p1 p2 p3 p4 en m bc ck k0 : Nat} {b n : Int} {f0 f1 : Nat} {pb : Bool} {wr : World} (h : BKInv w0 p1 p2 p3 p4 en m bc ck k0 b n f0 f1 pb wr) (h0 : 10 ≤ f0) (h1 : 9 ≤ f1) :
    Only [] w0 wr ∧ ∃ (s : MS) (ln : Nat), EnvAt wr en m bc ck s 0 ∧ s.ok ∧ sz (s.at 1) (s.at 0) = ln ∧ k0 ≤ ln ∧ ln ≤ k0 + 1 ∧ (ln = 0 ∨ Bt b (s.at 6)) := by
  obtain ⟨P, S, C, Y, s, t, L, h, hc, fpr, far, fp⟩ := h
  have hs := fpr.over h.ok1 h0
  obtain ⟨a, b, c, d⟩ := h.T.fin hs (far.over h.ok3 h1)
  exact ⟨h.o, s, L.length, h.E, h.sok, a, b, c, d⟩
end Go.Proofs.Ytnjddpijlgjgeaa
