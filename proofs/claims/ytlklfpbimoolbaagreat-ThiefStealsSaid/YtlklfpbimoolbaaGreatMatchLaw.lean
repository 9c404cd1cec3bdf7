/- What the laws by Match begin with: the deque's places, both environments, both machines. -/
import Derived.Test.YtlklfpbimoolbaaGreatMatch
import Derived.Test.YtlklfpbimoolbaaGreatOwnAwake
namespace Go.Proofs.YtlklfpbimoolbaaGreat
open Go.RowKit
set_option linter.unusedVariables false

/-- The places that a law's numbers give. -/
structure QOk (q : Q4) : Prop where
  ring : -1 ≤ q.ring ∧ q.ring ≤ 1000000
  cap : q.cap ≤ 1000000

theorem QOk.push {q : Q4} (h : QOk q) (v : Int) : (newPush q v).ok := ⟨by simp [newPush], by simp [newPush], by simp [newPush], h.ring, fun _ => h.cap, by simp [newPush]⟩
theorem QOk.pop {q : Q4} (h : QOk q) : (newPop q).ok := ⟨by simp [newPop], by simp [newPop], by simp [newPop], h.ring, fun _ => h.cap, by simp [newPop]⟩
theorem QOk.steal {q : Q4} (h : QOk q) : (newSteal q).ok := ⟨by simp [newSteal], by simp [newSteal], by simp [newSteal], h.ring, fun _ => h.cap, by simp [newSteal]⟩

/-- Both machines have been made. -/
theorem matIn_new {w0 w1 w2 : World} {p y fb en m bc ck r rc : Nat} {k : K} {s : MS} (B : Both w0 en m bc ck r rc s 0) (hbc : bc < w0.heap.size) (hrc : rc < w0.heap.size)
    (o1 : Only [] w0 w1) (hp : w1.heap[p]? = some (machO k)) (lp : w0.heap.size ≤ p) (lp2 : p < w1.heap.size) (o2 : Only [] w1 w2) (hm : RMach w2 y fb k) (ly : w1.heap.size ≤ y) (lf : w1.heap.size ≤ fb) (hn : y ≠ fb) (ly2 : y < w2.heap.size) (lf2 : fb < w2.heap.size) :
    MatIn w2 p y fb en m bc ck r rc k s 0 ∧ Old w2 y fb en m bc ck r rc ∧ p < w2.heap.size := by
  have a1 := lt_of_blk B.ee.e
  have a2 := lt_of_blk B.ee.c
  have a3 := B.ee.mm.lt
  have a4 := B.rr.lt
  have s1 := o1.size
  have s2 := o2.size
  have ⟨ap, pk⟩ := apart_new B.ee hbc lp
  refine ⟨⟨(B.keep0 o1).keep0 o2, o2.keep hp (by simp), hm, ⟨ap, pk, by omega, by omega, by omega⟩⟩, ⟨by omega, by omega, by omega, by omega, by omega, by omega, by omega, by omega⟩, by omega⟩

/-- A number chosen by one. -/
theorem num1_any (w : World) (b : Nat) (z n : Int) (T : TypeId) (f : Nat × Nat) (hb : w.heap[b]? = some (.cells #[.int .i64 z] T f)) (hn : n ≤ 9223372036854775807) (h1 : 1 ≤ n) :
    Calls Tryz.prog 22 #[.slice (some ⟨b, 0, none⟩) 1 1, .int .i64 0, .int .i64 n] w fun e w' => ∃ x : Int, e = .returned (.int .i64 x) ∧ (0 ≤ x ∧ x < n) ∧ Only [] w w' := by
  have h := number_any w (.slice (some ⟨b, 0, none⟩) 1 1) [z] 0 n (ns_new [z] hb rfl) hn (by simp) (by omega)
  exact h.mono fun e w' ⟨h1', h2'⟩ => ⟨_, h1', numZ_bd _ _ h1, h2'⟩

theorem new1 {w w' : World} (o : Only [] w w') (ob : Obj) : (w'.alloc ob).heap[w'.heap.size]? = some ob := blk_alloc_new _ _

set_option maxRecDepth 100000 in
theorem queue09_any (w : World) (ao : Option Addr) (cap n : Nat) (hn : n ≤ 1000) (a b c d : Int) :
    Calls Tryz.prog 13 #[.slice ao n cap, .int .i64 a, .int .i64 b, .int .i64 c, .int .i64 d] w fun e w' => ∃ q : Q4, e = .returned q.v ∧ Only [] w w' ∧ QOk q := by
  have N1 := fun w b z n (hb : w.heap[b]? = some (.cells #[.int .i64 z] 3 (0, 0))) h1 h2 => Lib.hid (num1_any w b z n 3 (0, 0) hb h1 h2)
  have hq0 : (w.alloc (.cells #[.int .i64 0, .int .i64 0, .int .i64 0, .int .i64 0] 27)).heap[w.heap.size]? = some (.cells #[.int .i64 0, .int .i64 0, .int .i64 0, .int .i64 0] 27 (0, 0)) := blk_alloc_new _ _
  have H0 := Lib.hid hq0
  obtain ⟨w0, hw0⟩ : ∃ w0, w0 = w.alloc (.cells #[.int .i64 0, .int .i64 0, .int .i64 0, .int .i64 0] 27) := ⟨_, rfl⟩
  have o0 : Only [] w w0 := by rw [hw0]; exact (Only.refl _ _).alloc _
  have s0 : w0.heap.size = w.heap.size + 1 := by rw [hw0]; simp
  have W0 := Lib.hid hw0
  clear hq0 hw0
  go_enter Tryz.func13, Tryz.ntmps13
  go_wp2_with fail
  rw [← W0.out] at H0 ⊢
  rw [← s0]
  refine (N1 _ _ _ _ (blk_alloc_new _ _) (by omega) (by omega)).out.mono ?_; rintro e w1 ⟨x1, rfl, h1, o1⟩
  have O1 := Lib.hid ((o0.alloc (.cells #[.int .i64 a] 3)).then0 o1)
  have Q1 := Lib.hid (o1.keep (((Only.refl [] w0).alloc (.cells #[.int .i64 a] 3)).keep H0.out (by simp)) (by simp))
  clear o1 o0 s0 W0 H0
  go_wp2_with fail
  refine (N1 _ _ _ _ (blk_alloc_new _ _) (by omega) (by omega)).out.mono ?_; rintro e w2 ⟨x2, rfl, h2, o2⟩
  have O2 := Lib.hid ((O1.out.alloc (.cells #[.int .i64 b] 3)).then0 o2)
  have Q2 := Lib.hid (o2.keep (((Only.refl [] w1).alloc (.cells #[.int .i64 b] 3)).keep Q1.out (by simp)) (by simp))
  clear o2 O1 Q1
  go_wp2_with fail
  refine (N1 _ _ _ _ (blk_alloc_new _ _) (by omega) (by omega)).out.mono ?_; rintro e w3 ⟨x3, rfl, h3, o3⟩
  have O3 := Lib.hid ((O2.out.alloc (.cells #[.int .i64 c] 3)).then0 o3)
  have Q3 := Lib.hid (o3.keep (((Only.refl [] w2).alloc (.cells #[.int .i64 c] 3)).keep Q2.out (by simp)) (by simp))
  clear o3 O2 Q2
  go_wp2_with fail
  refine (N1 _ _ _ _ (blk_alloc_new _ _) (by omega) (by omega)).out.mono ?_; rintro e w4 ⟨x4, rfl, h4, o4⟩
  have O4 := Lib.hid ((O3.out.alloc (.cells #[.int .i64 d] 3)).then0 o4)
  have Q4 := Lib.hid (o4.keep (((Only.refl [] w3).alloc (.cells #[.int .i64 d] 3)).keep Q3.out (by simp)) (by simp))
  clear o4 O3 Q3
  have t0 := cell_blk Q4.out 0
  have t1 := cell_blk Q4.out 1
  have t2 := cell_blk Q4.out 2
  have t3 := cell_blk Q4.out 3
  have t4 := free_blk Q4.out 0
  have t5 := free_blk Q4.out 1
  have t6 := free_blk Q4.out 2
  have t7 := free_blk Q4.out 3
  simp at t0 t1 t2 t3
  have e1 : IntKind.i64.wrap (x1 - 1) = x1 - 1 := IntWalk.i64_in _ (by omega)
  have e2 : IntKind.i64.wrap (x2 - 1) = x2 - 1 := IntWalk.i64_in _ (by omega)
  have e3 : IntKind.i64.wrap (x3 - 1) = x3 - 1 := IntWalk.i64_in _ (by omega)
  have e4 : IntKind.i64.wrap (x4 - 1) = x4 - 1 := IntWalk.i64_in _ (by omega)
  clear Q4
  go_wp2_with fail
  refine bodyPost_ret (v := .agg #[.int .i64 (x1 - 1), .int .i64 (x2 - 1), .int .i64 (x3 - 1), .int .i64 (x4 - 1)]) (by simp [results, Tryz.results13, go_sem, t0, t1, t2, t3]) rfl ?_
  refine ⟨⟨x1 - 1, x2 - 1, x3 - 1, x4 - 1⟩, rfl, ?_, ⟨⟨by simp only; omega, by simp only; omega⟩, by simp only; omega⟩⟩
  exact ((((O4.out.setCell (.inr (Nat.le_refl _)) _).setCell (.inr (Nat.le_refl _)) _).setCell (.inr (Nat.le_refl _)) _).setCell (.inr (Nat.le_refl _)) _)
end Go.Proofs.YtlklfpbimoolbaaGreat
