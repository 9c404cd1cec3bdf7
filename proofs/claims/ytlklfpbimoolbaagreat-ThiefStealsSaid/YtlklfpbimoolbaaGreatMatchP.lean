/- A machine of the program beside the reference's: what stands between two steps. -/
import Derived.Test.YtlklfpbimoolbaaGreatMachCopy
import Derived.Test.YtlklfpbimoolbaaGreatDisturb
import Derived.Test.YtlklfpbimoolbaaGreatRefMake
import Derived.Test.YtlklfpbimoolbaaGreatAlone
namespace Go.Proofs.YtlklfpbimoolbaaGreat
open Go.RowKit
set_option linter.unusedVariables false

/-- A machine that is not done has neither code nor value. -/
theorem stepK_zero {k : K} {s : MS} (h0 : k.code = 0 ∧ k.val = 0) (ho : (stepK k s).1.over = false) : (stepK k s).1.code = 0 ∧ (stepK k s).1.val = 0 := by
  revert ho
  unfold stepK
  by_cases hk : k.over = true
  · rw [if_pos hk]; intro _; exact h0
  · rw [if_neg hk]
    split
    · unfold stepPush
      split
      · intro _; exact h0
      · by_cases g : k.q.cap ≤ sz k.u (s.at k.q.top)
        · simp only [if_pos g]; intro h; simp [K.fin] at h
        · simp only [if_neg g]; intro _; exact h0
      · intro _; exact h0
      · intro h; simp [K.fin] at h
    · unfold stepPop
      split
      · intro _; exact h0
      · by_cases g : sz k.u (s.at k.q.top) ≤ 0
        · simp only [if_pos g]; intro h; simp [K.fin] at h
        · simp only [if_neg g]; intro _; exact h0
      · intro _; exact h0
      · intro _; exact h0
      · intro h; simp [K.fin] at h
      · intro h; simp [K.fin] at h
      · intro _; exact h0
      · intro _; exact h0
      · intro h; simp [K.fin] at h
    · unfold stepSteal
      split
      · intro _; exact h0
      · by_cases g : sz (s.at k.q.bot) k.v ≤ 0
        · simp only [if_pos g]; intro h; simp [K.fin] at h
        · simp only [if_neg g]; intro _; exact h0
      · intro _; exact h0
      · by_cases g : (s.has k.q.top && s.at k.q.top == k.v) = true
        · simp only [if_pos g]; intro h; simp [K.fin] at h
        · simp only [if_neg g]; intro h; simp [K.fin] at h
    · intro h; simp [K.fin] at h
    · unfold stepClear
      split
      · intro _; exact h0
      · intro _; exact h0
      · by_cases g : sz k.u (s.at k.q.top) ≤ 0
        · simp only [if_pos g]; intro h; simp [K.fin] at h
        · simp only [if_neg g]; intro _; exact h0
      · intro h; simp [K.fin] at h

/-- The places of the two machines and of the two environments. -/
structure Far (p y fb en m bc ck r rc : Nat) : Prop where
  ap : Apart p en m bc
  pk : ck ≠ p
  pr : p ≠ r ∧ p ≠ rc ∧ p ≠ y ∧ p ≠ fb
  ya : y ≠ en ∧ y ≠ m ∧ y ≠ bc ∧ y ≠ ck ∧ y ≠ r ∧ y ≠ rc ∧ y ≠ fb
  fa : fb ≠ en ∧ fb ≠ m ∧ fb ≠ bc ∧ fb ≠ ck ∧ fb ≠ r ∧ fb ≠ rc

theorem Far.ap2 {p y fb en m bc ck r rc : Nat} (h : Far p y fb en m bc ck r rc) : RAp2 y fb r rc :=
  ⟨⟨h.fa.2.2.2.2.1, h.fa.2.2.2.2.2⟩, h.ya.2.2.2.2.1, h.ya.2.2.2.2.2.1, h.ya.2.2.2.2.2.2⟩

/-- Both machines stand in the same state k, both environments in s. -/
structure MatIn (w : World) (p y fb en m bc ck r rc : Nat) (k : K) (s : MS) (now : Int) : Prop where
  b : Both w en m bc ck r rc s now
  hp : w.heap[p]? = some (machO k)
  hm : RMach w y fb k
  fr : Far p y fb en m bc ck r rc

theorem MatIn.keep0 {w w' : World} {p y fb en m bc ck r rc : Nat} {k : K} {s : MS} {now : Int} (h : MatIn w p y fb en m bc ck r rc k s now) (o : Only [] w w') : MatIn w' p y fb en m bc ck r rc k s now :=
  ⟨h.b.keep0 o, o.keep h.hp (by simp), h.hm.keep o (by simp) (by simp), h.fr⟩

/-- Both have made a step. -/
theorem MatIn.step {w w1 w2 : World} {p y fb en m bc ck r rc : Nat} {k : K} {s : MS} {now : Int} {k1 : K} {s1 : MS} (h : MatIn w p y fb en m bc ck r rc k s now)
    (o1 : Only [p, m, bc] w w1) (hp : w1.heap[p]? = some (machO k1)) (hm : MemAt w1 m bc s1) (o2 : Only [y, fb, r, rc] w1 w2) (hr : RMach w2 y fb k1) (he : REnvAt w2 r rc s1 now) : MatIn w2 p y fb en m bc ck r rc k1 s1 now := by
  obtain ⟨⟨ee, rr, ⟨a1, a2⟩, ⟨b1, b2⟩, ⟨c1, c2⟩, ⟨d1, d2⟩⟩, _, _, fr⟩ := h
  have ⟨ap, pk, ⟨q1, q2, q3, q4⟩, ⟨y1, y2, y3, y4, y5, y6, y7⟩, ⟨f1, f2, f3, f4, f5, f6⟩⟩ := fr
  have g1 := ap.pm
  have g2 := ap.pc
  have g3 := ap.ep
  have E1 := ee.step ap pk o1 hm
  exact ⟨⟨E1.keep o2 (by simp only [List.mem_cons, List.not_mem_nil, or_false, not_or]; and_intros <;> (intro h; first | exact absurd h (by assumption) | exact absurd h.symm (by assumption))) (by simp only [List.mem_cons, List.not_mem_nil, or_false, not_or]; and_intros <;> (intro h; first | exact absurd h (by assumption) | exact absurd h.symm (by assumption))) (by simp only [List.mem_cons, List.not_mem_nil, or_false, not_or]; and_intros <;> (intro h; first | exact absurd h (by assumption) | exact absurd h.symm (by assumption))) (by simp only [List.mem_cons, List.not_mem_nil, or_false, not_or]; and_intros <;> (intro h; first | exact absurd h (by assumption) | exact absurd h.symm (by assumption))), he, ⟨a1, a2⟩, ⟨b1, b2⟩, ⟨c1, c2⟩, ⟨d1, d2⟩⟩, o2.keep hp (by simp only [List.mem_cons, List.not_mem_nil, or_false, not_or]; and_intros <;> (intro h; first | exact absurd h (by assumption) | exact absurd h.symm (by assumption))), hr, fr⟩

/-- The machine of the program alone has made a step. -/
theorem MatIn.pstep {w w1 : World} {p y fb en m bc ck r rc : Nat} {k : K} {s : MS} {now : Int} (h : MatIn w p y fb en m bc ck r rc k s now)
    (o1 : Only [p, m, bc] w w1) (hp : w1.heap[p]? = some (machO k)) (hm : MemAt w1 m bc s) : MatIn w1 p y fb en m bc ck r rc k s now := by
  obtain ⟨⟨ee, rr, ⟨a1, a2⟩, ⟨b1, b2⟩, ⟨c1, c2⟩, ⟨d1, d2⟩⟩, _, hr, fr⟩ := h
  have ⟨ap, pk, ⟨q1, q2, q3, q4⟩, ⟨y1, y2, y3, y4, y5, y6, y7⟩, ⟨f1, f2, f3, f4, f5, f6⟩⟩ := fr
  have g1 := ap.pm
  have g2 := ap.pc
  exact ⟨⟨ee.step ap pk o1 hm, rr.keep o1 (by simp only [List.mem_cons, List.not_mem_nil, or_false, not_or]; and_intros <;> (intro h; first | exact absurd h (by assumption) | exact absurd h.symm (by assumption))) (by simp only [List.mem_cons, List.not_mem_nil, or_false, not_or]; and_intros <;> (intro h; first | exact absurd h (by assumption) | exact absurd h.symm (by assumption))), ⟨a1, a2⟩, ⟨b1, b2⟩, ⟨c1, c2⟩, ⟨d1, d2⟩⟩, hp, hr.keep o1 (by simp only [List.mem_cons, List.not_mem_nil, or_false, not_or]; and_intros <;> (intro h; first | exact absurd h (by assumption) | exact absurd h.symm (by assumption))) (by simp only [List.mem_cons, List.not_mem_nil, or_false, not_or]; and_intros <;> (intro h; first | exact absurd h (by assumption) | exact absurd h.symm (by assumption))), fr⟩

/-- A cell has been changed in both environments. -/
theorem MatIn.noise {w w1 : World} {p y fb en m bc ck r rc : Nat} {k : K} {s s1 : MS} {now : Int} (h : MatIn w p y fb en m bc ck r rc k s now)
    (o : Only [m, bc, r, rc] w w1) (b : Both w1 en m bc ck r rc s1 now) : MatIn w1 p y fb en m bc ck r rc k s1 now := by
  obtain ⟨_, hp, hr, fr⟩ := h
  have ⟨ap, pk, ⟨q1, q2, q3, q4⟩, ⟨y1, y2, y3, y4, y5, y6, y7⟩, ⟨f1, f2, f3, f4, f5, f6⟩⟩ := fr
  have g1 := ap.pm
  have g2 := ap.pc
  exact ⟨b, o.keep hp (by simp only [List.mem_cons, List.not_mem_nil, or_false, not_or]; and_intros <;> (intro h; first | exact absurd h (by assumption) | exact absurd h.symm (by assumption))), hr.keep o (by simp only [List.mem_cons, List.not_mem_nil, or_false, not_or]; and_intros <;> (intro h; first | exact absurd h (by assumption) | exact absurd h.symm (by assumption))) (by simp only [List.mem_cons, List.not_mem_nil, or_false, not_or]; and_intros <;> (intro h; first | exact absurd h (by assumption) | exact absurd h.symm (by assumption))), fr⟩

/-- The machine of the program has been copied to block q. -/
theorem MatIn.copy {w w1 : World} {p q y fb en m bc ck r rc : Nat} {k : K} {s : MS} {now : Int} (h : MatIn w p y fb en m bc ck r rc k s now)
    (o : Only [] w w1) (hq : w1.heap[q]? = some (machO k)) (hn : w.heap.size ≤ q) (l1 : en < w.heap.size) (l2 : m < w.heap.size) (l3 : bc < w.heap.size) (l4 : ck < w.heap.size) (l5 : r < w.heap.size) (l6 : rc < w.heap.size) (l7 : y < w.heap.size) (l8 : fb < w.heap.size) : MatIn w1 q y fb en m bc ck r rc k s now := by
  have h1 := h.keep0 o
  obtain ⟨b, _, hr, fr⟩ := h1
  have ⟨ap, pk, ⟨q1, q2, q3, q4⟩, ⟨y1, y2, y3, y4, y5, y6, y7⟩, ⟨f1, f2, f3, f4, f5, f6⟩⟩ := fr
  exact ⟨b, hq, hr, ⟨⟨by omega, by omega, by omega, ap.em, ap.ec⟩, by omega, ⟨by omega, by omega, by omega, by omega⟩, fr.ya, fr.fa⟩⟩

/-- The clocks have ticked. -/
theorem MatIn.tick {w w1 w2 : World} {p y fb en m bc ck r rc : Nat} {k : K} {s : MS} {now : Int} (h : MatIn w p y fb en m bc ck r rc k s now)
    (o1 : Only [ck] w w1) (c1 : w1.heap[ck]? = some (clkO (now + 1) 0)) (o2 : Only [r] w1 w2) (r2 : REnvAt w2 r rc s (now + 1)) : MatIn w2 p y fb en m bc ck r rc k s (now + 1) := by
  obtain ⟨⟨ee, rr, ⟨a1, a2⟩, ⟨b1, b2⟩, ⟨c1', c2⟩, ⟨d1, d2⟩⟩, hp, hr, fr⟩ := h
  have ⟨ap, pk, ⟨q1, q2, q3, q4⟩, ⟨y1, y2, y3, y4, y5, y6, y7⟩, ⟨f1, f2, f3, f4, f5, f6⟩⟩ := fr
  have g1 := ee.km
  have g2 := ee.kc
  have g3 := ee.ek
  refine ⟨⟨⟨o2.keep (o1.keep ee.e (by simp only [List.mem_cons, List.not_mem_nil, or_false, not_or]; and_intros <;> (intro h; first | exact absurd h (by assumption) | exact absurd h.symm (by assumption)))) (by simp only [List.mem_cons, List.not_mem_nil, or_false, not_or]; and_intros <;> (intro h; first | exact absurd h (by assumption) | exact absurd h.symm (by assumption))), o2.keep c1 (by simp only [List.mem_cons, List.not_mem_nil, or_false, not_or]; and_intros <;> (intro h; first | exact absurd h (by assumption) | exact absurd h.symm (by assumption))), (ee.mm.keep o1 (by simp only [List.mem_cons, List.not_mem_nil, or_false, not_or]; and_intros <;> (intro h; first | exact absurd h (by assumption) | exact absurd h.symm (by assumption))) (by simp only [List.mem_cons, List.not_mem_nil, or_false, not_or]; and_intros <;> (intro h; first | exact absurd h (by assumption) | exact absurd h.symm (by assumption)))).keep o2 (by simp only [List.mem_cons, List.not_mem_nil, or_false, not_or]; and_intros <;> (intro h; first | exact absurd h (by assumption) | exact absurd h.symm (by assumption))) (by simp only [List.mem_cons, List.not_mem_nil, or_false, not_or]; and_intros <;> (intro h; first | exact absurd h (by assumption) | exact absurd h.symm (by assumption))), ee.em, ee.ec, ee.ek, ee.km, ee.kc⟩, r2, ⟨a1, a2⟩, ⟨b1, b2⟩, ⟨c1', c2⟩, ⟨d1, d2⟩⟩, o2.keep (o1.keep hp (by simp only [List.mem_cons, List.not_mem_nil, or_false, not_or]; and_intros <;> (intro h; first | exact absurd h (by assumption) | exact absurd h.symm (by assumption)))) (by simp only [List.mem_cons, List.not_mem_nil, or_false, not_or]; and_intros <;> (intro h; first | exact absurd h (by assumption) | exact absurd h.symm (by assumption))), (hr.keep o1 (by simp only [List.mem_cons, List.not_mem_nil, or_false, not_or]; and_intros <;> (intro h; first | exact absurd h (by assumption) | exact absurd h.symm (by assumption))) (by simp only [List.mem_cons, List.not_mem_nil, or_false, not_or]; and_intros <;> (intro h; first | exact absurd h (by assumption) | exact absurd h.symm (by assumption)))).keep o2 (by simp only [List.mem_cons, List.not_mem_nil, or_false, not_or]; and_intros <;> (intro h; first | exact absurd h (by assumption) | exact absurd h.symm (by assumption))) (by simp only [List.mem_cons, List.not_mem_nil, or_false, not_or]; and_intros <;> (intro h; first | exact absurd h (by assumption) | exact absurd h.symm (by assumption))), fr⟩

theorem REnvAt.tick {w : World} {r rc : Nat} {s : MS} {now : Int} (h : REnvAt w r rc s now) : REnvAt (w.setCell ⟨r, 17, none⟩ (.int .i64 (now + 1))) r rc s (now + 1) := by
  obtain ⟨v, h1, h2, h3, h4⟩ := h
  have hrc : rc ≠ r := h3
  refine ⟨v, ?_, h2.keep ((Only.refl [r] w).setCell (by simp) _) (by simpa using hrc), h3, h4⟩
  have := blk_setCell h1 17 (.int .i64 (now + 1))
  simpa [cfg0, renvPost] using this

theorem tick_any (w : World) (ck : Nat) (now : Int) (h : w.heap[ck]? = some (clkO now 0)) (h0 : 0 ≤ now) (h1 : now ≤ 1000000) :
    Calls Tryz.prog 46 #[.pointer (some ⟨ck, 0, none⟩)] w fun e w' => e = .returned (.tuple #[]) ∧ Only [ck] w w' ∧ w'.heap[ck]? = some (clkO (now + 1) 0) := by
  have c0 := cell_blk (show w.heap[ck]? = some (.cells _ _ _) from h) 0
  have f0 := free_blk (show w.heap[ck]? = some (.cells _ _ _) from h) 0
  simp at c0
  have hw : wrap64 (now + 1) = now + 1 := by unfold wrap64; omega
  have H := Lib.hid h
  clear h
  go_enter Tryz.func46, Tryz.ntmps46
  go_wp2_with fail
  go_end0
  refine ⟨rfl, (Only.refl [ck] w).setCell (by simp) _, ?_⟩
  have := blk_setCell (show w.heap[ck]? = some (.cells _ _ _) from H.out) 0 (.int .i64 (now + 1))
  simpa [clkO] using this
end Go.Proofs.YtlklfpbimoolbaaGreat
