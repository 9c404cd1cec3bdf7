/- What the helpers of chapter 2's laws compute: a call on the memory and on the reference, and whether both show the same. -/
import Derived.Test.YtiijgnnejdcedaaRefMem
namespace Go.Proofs.Ytiijgnnejdcedaa
open Go.RowKit
set_option linter.unusedVariables false

/-- A memory of the program and one of the reference, equal and apart. -/
structure Pair (w : World) (m bc b rc : Nat) (s : MS) : Prop where
  p : MemAt w m bc s
  r : RMemAt w 49 b [] [] rc s
  mb : m ≠ b
  mr : m ≠ rc
  cb : bc ≠ b
  cr : bc ≠ rc
  n : s.count ≤ 3000000000000000000

theorem Pair.keep {S : List Nat} {w w' : World} {m bc b rc : Nat} {s : MS} (h : Pair w m bc b rc s) (ho : Only S w w') (h1 : m ∉ S) (h2 : bc ∉ S) (h3 : b ∉ S) (h4 : rc ∉ S) : Pair w' m bc b rc s :=
  ⟨h.p.keep ho h1 h2, h.r.keep ho h3 h4, h.mb, h.mr, h.cb, h.cr, h.n⟩

/-- Behind an access to both. -/
theorem Pair.both {w w1 w2 : World} {m bc b rc : Nat} {s s' : MS} (h : Pair w m bc b rc s) (hr : RMemAt w1 49 b [] [] rc s') (h2 : Only [m, bc] w1 w2) (hp : MemAt w2 m bc s') (hn : s'.count ≤ 3000000000000000000) : Pair w2 m bc b rc s' :=
  ⟨hp, hr.keep h2 (by simp; exact ⟨fun e => h.mb e.symm, fun e => h.cb e.symm⟩) (by simp; exact ⟨fun e => h.mr e.symm, fun e => h.cr e.symm⟩), h.mb, h.mr, h.cb, h.cr, hn⟩

theorem Pair.mem1 {w w1 : World} {m bc b rc : Nat} {s : MS} (h : Pair w m bc b rc s) (h1 : Only [b, rc] w w1) : MemAt w1 m bc s :=
  h.p.keep h1 (by simp; exact ⟨h.mb, h.mr⟩) (by simp; exact ⟨h.cb, h.cr⟩)

theorem Pair.ltb {w : World} {m bc b rc : Nat} {s : MS} (h : Pair w m bc b rc s) : b < w.heap.size := by
  obtain ⟨v, a, _⟩ := h.r
  exact lt_of_blk a
theorem Pair.ltr {w : World} {m bc b rc : Nat} {s : MS} (h : Pair w m bc b rc s) (hp : 0 < s.cells.length) : rc < w.heap.size := by
  obtain ⟨v, _, r, _⟩ := h.r
  obtain ⟨a, cap, _, _, _, h3⟩ := r
  obtain ⟨_, arr, h4, _⟩ := h3 (by simpa using hp)
  exact lt_of_blk h4

theorem both_only {w w1 w2 : World} {o : Obj} {m bc b rc : Nat} (h1 : Only [b, rc] (w.alloc o) w1) (h2 : Only [m, bc] w1 w2) : Only [m, bc, b, rc] w w2 :=
  (((Only.refl [m, bc, b, rc] w).alloc o).trans h1 (by simp)).trans h2 (by simp)

theorem tmod8 (x : Int) : -8 < x.tmod 8 ∧ x.tmod 8 < 8 := by
  have h1 := Int.tmod_lt_of_pos x (show (0 : Int) < 8 by omega)
  have h2 := Int.tmod_eq_emod (a := x) (b := 8)
  split at h2 <;> omega

theorem MemAt.drewN {w : World} {m bc : Nat} {s : MS} (h : MemAt w m bc s) (n : Nat) : MemAt (w.drewN n) m bc s := h
theorem RMemAt.drewN {w : World} {T : TypeId} {b bc : Nat} {pre post : List Value} {s : MS} (h : RMemAt w T b pre post bc s) (n : Nat) : RMemAt (w.drewN n) T b pre post bc s := h
theorem Pair.drewN {w : World} {m bc b rc : Nat} {s : MS} (h : Pair w m bc b rc s) (n : Nat) : Pair (w.drewN n) m bc b rc s := ⟨h.p, h.r, h.mb, h.mr, h.cb, h.cr, h.n⟩

/-- A contract of a callee that only reads, in the form that a region that draws asks. -/
theorem quietS {P : Program} {f : FuncId} {args : Array Value} {w : World} {n : Nat} {v : Value}
    (h : Calls P f args (w.drewN n) fun e w' => e = .returned v ∧ w.drewN n = w') : Calls P f args (w.drewN n) fun e w'' => e = .returned v ∧ ∃ m, w'' = w.drewN m :=
  h.mono fun _ _ ⟨he, hm⟩ => ⟨he, n, hm.symm⟩

def ActPost (w : World) (m bc b rc : Nat) (s : MS) (e : Ending) (w' : World) : Prop :=
  ∃ s' : MS, e = .returned (.bool true) ∧ Only [m, bc, b, rc] w w' ∧ Pair w' m bc b rc s' ∧ s'.cells.length = s.cells.length ∧ s'.count ≤ s.count + 1

theorem act0_in (w : World) (m bc b rc : Nat) (s : MS) (kind c v u : Int) (h : Pair w m bc b rc s) (hn : s.count ≤ 2000000000000000000)
    (hK : (kind.tmod 8 + 8).tmod 8 = 0) (k : Nat) (hck : c = (k : Int)) (hk : k < s.cells.length) (x : Int) (hx : s.cells[k] = x) :
    Calls Try.prog 33 #[.pointer (some ⟨m, 0, none⟩), .pointer (some ⟨b, 0, none⟩), .agg #[.int .i64 kind, .int .i64 c, .int .u64 v, .int .u64 u]] w (ActPost w m bc b rc s) := by
  obtain ⟨hb1, hb2⟩ := tmod8 kind
  have h0 := h.keep ((Only.refl [] w).alloc (.cells #[.int .i64 kind, .int .i64 c, .int .u64 v, .int .u64 u] 52)) (by simp) (by simp) (by simp) (by simp)
  have H0 := Lib.hid h0
  have lb := h.ltb
  have lm := h.p.lt
  have lr := h.ltr (by omega)
  have lc := h.p.ltc (by omega)
  have HX := Lib.hid hx
  have HC := Lib.hid hck
  clear hx hck
  clear h h0
  go_enter Try.func33, Try.ntmps33
  go_wp2_with fail
  refine (refAcc1_in _ 49 b 0 rc [] [] s c k HC.out x 0 0 H0.out.r rfl hk HX.out (by omega)).mono ?_
  rintro e w1 ⟨rfl, o1, r1⟩
  have q1 := H0.out.mem1 o1
  have bx := o1.keep (blk_alloc_new w _) (by simp; omega)
  have x0 := cell_blk bx 0
  have x1 := cell_blk bx 1
  have x2 := cell_blk bx 2
  have x3 := cell_blk bx 3
  simp at x0 x1 x2 x3
  have HB := Lib.hid bx
  have HR := Lib.hid r1
  have HO := Lib.hid o1
  clear bx r1 o1
  go_wp2_with fail
  refine (memLoad_in _ m bc s c k HC.out x q1 hk HX.out (by omega)).mono ?_
  rintro e w2 ⟨rfl, o2, p2⟩
  have P := Lib.hid (H0.out.both HR.out o2 p2 (by simp only [MS.acc]; omega))
  have O := Lib.hid (both_only HO.out o2)
  clear o2 p2 q1
  go_wp2_with fail
  go_ret
  exact ⟨_, rfl, O.out, P.out, by simp [MS.acc], by simp [MS.acc]⟩

theorem act0_out (w : World) (m bc b rc : Nat) (s : MS) (kind c v u : Int) (h : Pair w m bc b rc s) (hn : s.count ≤ 2000000000000000000)
    (hK : (kind.tmod 8 + 8).tmod 8 = 0) (hc : c < 0 ∨ s.cells.length ≤ c) :
    Calls Try.prog 33 #[.pointer (some ⟨m, 0, none⟩), .pointer (some ⟨b, 0, none⟩), .agg #[.int .i64 kind, .int .i64 c, .int .u64 v, .int .u64 u]] w (ActPost w m bc b rc s) := by
  obtain ⟨hb1, hb2⟩ := tmod8 kind
  have h0 := h.keep ((Only.refl [] w).alloc (.cells #[.int .i64 kind, .int .i64 c, .int .u64 v, .int .u64 u] 52)) (by simp) (by simp) (by simp) (by simp)
  have H0 := Lib.hid h0
  have lb := h.ltb
  have lm := h.p.lt
  have HC := Lib.hid hc
  clear hc
  clear h h0
  go_enter Try.func33, Try.ntmps33
  go_wp2_with fail
  refine (refAcc_out _ 49 b 0 rc [] [] s 1 c 0 0 H0.out.r rfl HC.out).mono ?_
  rintro e w1 ⟨rfl, rfl⟩
  go_wp2_with fail
  refine (memLoad_out _ m bc s c H0.out.p HC.out).mono ?_
  rintro e w2 ⟨rfl, rfl⟩
  have P := Lib.hid H0.out
  have O := Lib.hid ((Only.refl [m, bc, b, rc] w).alloc (.cells #[.int .i64 kind, .int .i64 c, .int .u64 v, .int .u64 u] 52))
  go_wp2_with fail
  go_ret
  exact ⟨s, rfl, O.out, P.out, rfl, by omega⟩

theorem act1_in (w : World) (m bc b rc : Nat) (s : MS) (kind c v u : Int) (h : Pair w m bc b rc s) (hn : s.count ≤ 2000000000000000000)
    (hK : (kind.tmod 8 + 8).tmod 8 = 1) (k : Nat) (hck : c = (k : Int)) (hk : k < s.cells.length) (x : Int) (hx : s.cells[k] = x) :
    Calls Try.prog 33 #[.pointer (some ⟨m, 0, none⟩), .pointer (some ⟨b, 0, none⟩), .agg #[.int .i64 kind, .int .i64 c, .int .u64 v, .int .u64 u]] w (ActPost w m bc b rc s) := by
  obtain ⟨hb1, hb2⟩ := tmod8 kind
  have h0 := h.keep ((Only.refl [] w).alloc (.cells #[.int .i64 kind, .int .i64 c, .int .u64 v, .int .u64 u] 52)) (by simp) (by simp) (by simp) (by simp)
  have H0 := Lib.hid h0
  have lb := h.ltb
  have lm := h.p.lt
  have lr := h.ltr (by omega)
  have lc := h.p.ltc (by omega)
  have HX := Lib.hid hx
  have HC := Lib.hid hck
  clear hx hck
  clear h h0
  go_enter Try.func33, Try.ntmps33
  go_wp2_with fail
  refine (refAcc2_in _ 49 b 0 rc [] [] s c k HC.out x v 0 H0.out.r rfl hk HX.out (by omega)).mono ?_
  rintro e w1 ⟨rfl, o1, r1⟩
  have q1 := H0.out.mem1 o1
  have bx := o1.keep (blk_alloc_new w _) (by simp; omega)
  have x0 := cell_blk bx 0
  have x1 := cell_blk bx 1
  have x2 := cell_blk bx 2
  have x3 := cell_blk bx 3
  simp at x0 x1 x2 x3
  have HB := Lib.hid bx
  have HR := Lib.hid r1
  have HO := Lib.hid o1
  clear bx r1 o1
  go_wp2_with fail
  refine (memStore_in _ m bc s c k HC.out x v q1 hk HX.out (by omega)).mono ?_
  rintro e w2 ⟨rfl, o2, p2⟩
  have P := Lib.hid (H0.out.both HR.out o2 p2 (by simp only [MS.acc]; omega))
  have O := Lib.hid (both_only HO.out o2)
  have bx := o2.keep HB.out (by simp; have := lm; have := lc; omega)
  have x0 := cell_blk bx 0
  have x1 := cell_blk bx 1
  have x2 := cell_blk bx 2
  have x3 := cell_blk bx 3
  simp at x0 x1 x2 x3
  clear o2 p2 q1 bx
  go_wp2_with fail
  go_quiet ((first
    | (go_at_call 23; exact quietS (memPeek_in _ m bc _ c k HC.out v (P.out.p.drewN _) (by simp [MS.acc]; exact hk) (by simp [MS.acc])))
    | (go_at_call 45; exact quietS (refPeek_in _ 49 b 0 rc [] [] _ c k HC.out v (P.out.r.drewN _) rfl (by simp [MS.acc]; exact hk) (by simp [MS.acc])))))
  go_wp2_with fail
  go_ret
  exact ⟨_, rfl, O.out.drewN _, P.out.drewN _, by simp [MS.acc], by simp [MS.acc]⟩

theorem act1_out (w : World) (m bc b rc : Nat) (s : MS) (kind c v u : Int) (h : Pair w m bc b rc s) (hn : s.count ≤ 2000000000000000000)
    (hK : (kind.tmod 8 + 8).tmod 8 = 1) (hc : c < 0 ∨ s.cells.length ≤ c) :
    Calls Try.prog 33 #[.pointer (some ⟨m, 0, none⟩), .pointer (some ⟨b, 0, none⟩), .agg #[.int .i64 kind, .int .i64 c, .int .u64 v, .int .u64 u]] w (ActPost w m bc b rc s) := by
  obtain ⟨hb1, hb2⟩ := tmod8 kind
  have h0 := h.keep ((Only.refl [] w).alloc (.cells #[.int .i64 kind, .int .i64 c, .int .u64 v, .int .u64 u] 52)) (by simp) (by simp) (by simp) (by simp)
  have H0 := Lib.hid h0
  have lb := h.ltb
  have lm := h.p.lt
  have HC := Lib.hid hc
  clear hc
  clear h h0
  go_enter Try.func33, Try.ntmps33
  go_wp2_with fail
  refine (refAcc_out _ 49 b 0 rc [] [] s 2 c v 0 H0.out.r rfl HC.out).mono ?_
  rintro e w1 ⟨rfl, rfl⟩
  go_wp2_with fail
  refine (memStore_out _ m bc s c v H0.out.p HC.out).mono ?_
  rintro e w2 ⟨rfl, o2⟩
  have P := Lib.hid (H0.out.keep o2 (by simp) (by simp) (by simp) (by simp))
  have O := Lib.hid (((Only.refl [m, bc, b, rc] w).alloc (.cells #[.int .i64 kind, .int .i64 c, .int .u64 v, .int .u64 u] 52)).then0 o2)
  have bx := o2.keep (blk_alloc_new w _) (by simp)
  have x0 := cell_blk bx 0
  have x1 := cell_blk bx 1
  have x2 := cell_blk bx 2
  have x3 := cell_blk bx 3
  simp at x0 x1 x2 x3
  clear o2 bx
  go_wp2_with fail
  go_quiet ((first
    | (go_at_call 23; exact quietS (memPeek_out _ m bc _ c (P.out.p.drewN _) HC.out))
    | (go_at_call 45; exact quietS (refPeek_out _ 49 b 0 rc [] [] _ c (P.out.r.drewN _) rfl HC.out))))
  go_wp2_with fail
  go_ret
  exact ⟨s, rfl, O.out.drewN _, P.out.drewN _, rfl, by omega⟩

theorem act2_in (w : World) (m bc b rc : Nat) (s : MS) (kind c v u : Int) (h : Pair w m bc b rc s) (hn : s.count ≤ 2000000000000000000)
    (hK : (kind.tmod 8 + 8).tmod 8 = 2) (k : Nat) (hck : c = (k : Int)) (hk : k < s.cells.length) (x : Int) (hx : s.cells[k] = x) :
    Calls Try.prog 33 #[.pointer (some ⟨m, 0, none⟩), .pointer (some ⟨b, 0, none⟩), .agg #[.int .i64 kind, .int .i64 c, .int .u64 v, .int .u64 u]] w (ActPost w m bc b rc s) := by
  obtain ⟨hb1, hb2⟩ := tmod8 kind
  have h0 := h.keep ((Only.refl [] w).alloc (.cells #[.int .i64 kind, .int .i64 c, .int .u64 v, .int .u64 u] 52)) (by simp) (by simp) (by simp) (by simp)
  have H0 := Lib.hid h0
  have lb := h.ltb
  have lm := h.p.lt
  have lr := h.ltr (by omega)
  have lc := h.p.ltc (by omega)
  have HX := Lib.hid hx
  have HC := Lib.hid hck
  clear hx hck
  clear h h0
  go_enter Try.func33, Try.ntmps33
  go_wp2_with fail
  refine (refAcc3_in _ 49 b 0 rc [] [] s c k HC.out x v u H0.out.r rfl hk HX.out (by omega)).mono ?_
  rintro e w1 ⟨rfl, o1, r1⟩
  have q1 := H0.out.mem1 o1
  have bx := o1.keep (blk_alloc_new w _) (by simp; omega)
  have x0 := cell_blk bx 0
  have x1 := cell_blk bx 1
  have x2 := cell_blk bx 2
  have x3 := cell_blk bx 3
  simp at x0 x1 x2 x3
  have HB := Lib.hid bx
  have HR := Lib.hid r1
  have HO := Lib.hid o1
  clear bx r1 o1
  go_wp2_with fail
  refine (memCAS_in _ m bc s c k HC.out x v u q1 hk HX.out (by omega)).mono ?_
  rintro e w2 ⟨rfl, o2, p2⟩
  have P := Lib.hid (H0.out.both HR.out o2 p2 (by simp only [MS.acc]; omega))
  have O := Lib.hid (both_only HO.out o2)
  clear o2 p2 q1
  go_wp2_with fail
  go_ret
  exact ⟨_, rfl, O.out, P.out, by simp [MS.acc], by simp [MS.acc]⟩

theorem act2_out (w : World) (m bc b rc : Nat) (s : MS) (kind c v u : Int) (h : Pair w m bc b rc s) (hn : s.count ≤ 2000000000000000000)
    (hK : (kind.tmod 8 + 8).tmod 8 = 2) (hc : c < 0 ∨ s.cells.length ≤ c) :
    Calls Try.prog 33 #[.pointer (some ⟨m, 0, none⟩), .pointer (some ⟨b, 0, none⟩), .agg #[.int .i64 kind, .int .i64 c, .int .u64 v, .int .u64 u]] w (ActPost w m bc b rc s) := by
  obtain ⟨hb1, hb2⟩ := tmod8 kind
  have h0 := h.keep ((Only.refl [] w).alloc (.cells #[.int .i64 kind, .int .i64 c, .int .u64 v, .int .u64 u] 52)) (by simp) (by simp) (by simp) (by simp)
  have H0 := Lib.hid h0
  have lb := h.ltb
  have lm := h.p.lt
  have HC := Lib.hid hc
  clear hc
  clear h h0
  go_enter Try.func33, Try.ntmps33
  go_wp2_with fail
  refine (refAcc_out _ 49 b 0 rc [] [] s 3 c v u H0.out.r rfl HC.out).mono ?_
  rintro e w1 ⟨rfl, rfl⟩
  go_wp2_with fail
  refine (memCAS_out _ m bc s c v u H0.out.p HC.out).mono ?_
  rintro e w2 ⟨rfl, o2⟩
  have P := Lib.hid (H0.out.keep o2 (by simp) (by simp) (by simp) (by simp))
  have O := Lib.hid (((Only.refl [m, bc, b, rc] w).alloc (.cells #[.int .i64 kind, .int .i64 c, .int .u64 v, .int .u64 u] 52)).then0 o2)
  clear o2
  go_wp2_with fail
  go_ret
  exact ⟨s, rfl, O.out, P.out, rfl, by omega⟩

theorem act3_in (w : World) (m bc b rc : Nat) (s : MS) (kind c v u : Int) (h : Pair w m bc b rc s) (hn : s.count ≤ 2000000000000000000)
    (hK : (kind.tmod 8 + 8).tmod 8 = 3) (k : Nat) (hck : c = (k : Int)) (hk : k < s.cells.length) (x : Int) (hx : s.cells[k] = x) :
    Calls Try.prog 33 #[.pointer (some ⟨m, 0, none⟩), .pointer (some ⟨b, 0, none⟩), .agg #[.int .i64 kind, .int .i64 c, .int .u64 v, .int .u64 u]] w (ActPost w m bc b rc s) := by
  obtain ⟨hb1, hb2⟩ := tmod8 kind
  have h0 := h.keep ((Only.refl [] w).alloc (.cells #[.int .i64 kind, .int .i64 c, .int .u64 v, .int .u64 u] 52)) (by simp) (by simp) (by simp) (by simp)
  have H0 := Lib.hid h0
  have lb := h.ltb
  have lm := h.p.lt
  have lr := h.ltr (by omega)
  have lc := h.p.ltc (by omega)
  have HX := Lib.hid hx
  have HC := Lib.hid hck
  clear hx hck
  clear h h0
  go_enter Try.func33, Try.ntmps33
  go_wp2_with fail
  refine (refAcc4_in _ 49 b 0 rc [] [] s c k HC.out x v 0 H0.out.r rfl hk HX.out (by omega)).mono ?_
  rintro e w1 ⟨rfl, o1, r1⟩
  have q1 := H0.out.mem1 o1
  have bx := o1.keep (blk_alloc_new w _) (by simp; omega)
  have x0 := cell_blk bx 0
  have x1 := cell_blk bx 1
  have x2 := cell_blk bx 2
  have x3 := cell_blk bx 3
  simp at x0 x1 x2 x3
  have HB := Lib.hid bx
  have HR := Lib.hid r1
  have HO := Lib.hid o1
  clear bx r1 o1
  go_wp2_with fail
  refine (memOr_in _ m bc s c k HC.out x v q1 hk HX.out (by omega)).mono ?_
  rintro e w2 ⟨rfl, o2, p2⟩
  have P := Lib.hid (H0.out.both HR.out o2 p2 (by simp only [MS.acc]; omega))
  have O := Lib.hid (both_only HO.out o2)
  clear o2 p2 q1
  go_wp2_with fail
  go_ret
  exact ⟨_, rfl, O.out, P.out, by simp [MS.acc], by simp [MS.acc]⟩

theorem act3_out (w : World) (m bc b rc : Nat) (s : MS) (kind c v u : Int) (h : Pair w m bc b rc s) (hn : s.count ≤ 2000000000000000000)
    (hK : (kind.tmod 8 + 8).tmod 8 = 3) (hc : c < 0 ∨ s.cells.length ≤ c) :
    Calls Try.prog 33 #[.pointer (some ⟨m, 0, none⟩), .pointer (some ⟨b, 0, none⟩), .agg #[.int .i64 kind, .int .i64 c, .int .u64 v, .int .u64 u]] w (ActPost w m bc b rc s) := by
  obtain ⟨hb1, hb2⟩ := tmod8 kind
  have h0 := h.keep ((Only.refl [] w).alloc (.cells #[.int .i64 kind, .int .i64 c, .int .u64 v, .int .u64 u] 52)) (by simp) (by simp) (by simp) (by simp)
  have H0 := Lib.hid h0
  have lb := h.ltb
  have lm := h.p.lt
  have HC := Lib.hid hc
  clear hc
  clear h h0
  go_enter Try.func33, Try.ntmps33
  go_wp2_with fail
  refine (refAcc_out _ 49 b 0 rc [] [] s 4 c v 0 H0.out.r rfl HC.out).mono ?_
  rintro e w1 ⟨rfl, rfl⟩
  go_wp2_with fail
  refine (memOr_out _ m bc s c v H0.out.p HC.out).mono ?_
  rintro e w2 ⟨rfl, o2⟩
  have P := Lib.hid (H0.out.keep o2 (by simp) (by simp) (by simp) (by simp))
  have O := Lib.hid (((Only.refl [m, bc, b, rc] w).alloc (.cells #[.int .i64 kind, .int .i64 c, .int .u64 v, .int .u64 u] 52)).then0 o2)
  clear o2
  go_wp2_with fail
  go_ret
  exact ⟨s, rfl, O.out, P.out, rfl, by omega⟩

theorem act4_in (w : World) (m bc b rc : Nat) (s : MS) (kind c v u : Int) (h : Pair w m bc b rc s) (hn : s.count ≤ 2000000000000000000)
    (hK : (kind.tmod 8 + 8).tmod 8 = 4) (k : Nat) (hck : c = (k : Int)) (hk : k < s.cells.length) (x : Int) (hx : s.cells[k] = x) :
    Calls Try.prog 33 #[.pointer (some ⟨m, 0, none⟩), .pointer (some ⟨b, 0, none⟩), .agg #[.int .i64 kind, .int .i64 c, .int .u64 v, .int .u64 u]] w (ActPost w m bc b rc s) := by
  obtain ⟨hb1, hb2⟩ := tmod8 kind
  have h0 := h.keep ((Only.refl [] w).alloc (.cells #[.int .i64 kind, .int .i64 c, .int .u64 v, .int .u64 u] 52)) (by simp) (by simp) (by simp) (by simp)
  have H0 := Lib.hid h0
  have lb := h.ltb
  have lm := h.p.lt
  have lr := h.ltr (by omega)
  have lc := h.p.ltc (by omega)
  have HX := Lib.hid hx
  have HC := Lib.hid hck
  clear hx hck
  clear h h0
  go_enter Try.func33, Try.ntmps33
  go_wp2_with fail
  refine (refAcc5_in _ 49 b 0 rc [] [] s c k HC.out x v 0 H0.out.r rfl hk HX.out (by omega)).mono ?_
  rintro e w1 ⟨rfl, o1, r1⟩
  have q1 := H0.out.mem1 o1
  have bx := o1.keep (blk_alloc_new w _) (by simp; omega)
  have x0 := cell_blk bx 0
  have x1 := cell_blk bx 1
  have x2 := cell_blk bx 2
  have x3 := cell_blk bx 3
  simp at x0 x1 x2 x3
  have HB := Lib.hid bx
  have HR := Lib.hid r1
  have HO := Lib.hid o1
  clear bx r1 o1
  go_wp2_with fail
  refine (memAnd_in _ m bc s c k HC.out x v q1 hk HX.out (by omega)).mono ?_
  rintro e w2 ⟨rfl, o2, p2⟩
  have P := Lib.hid (H0.out.both HR.out o2 p2 (by simp only [MS.acc]; omega))
  have O := Lib.hid (both_only HO.out o2)
  clear o2 p2 q1
  go_wp2_with fail
  go_ret
  exact ⟨_, rfl, O.out, P.out, by simp [MS.acc], by simp [MS.acc]⟩

theorem act4_out (w : World) (m bc b rc : Nat) (s : MS) (kind c v u : Int) (h : Pair w m bc b rc s) (hn : s.count ≤ 2000000000000000000)
    (hK : (kind.tmod 8 + 8).tmod 8 = 4) (hc : c < 0 ∨ s.cells.length ≤ c) :
    Calls Try.prog 33 #[.pointer (some ⟨m, 0, none⟩), .pointer (some ⟨b, 0, none⟩), .agg #[.int .i64 kind, .int .i64 c, .int .u64 v, .int .u64 u]] w (ActPost w m bc b rc s) := by
  obtain ⟨hb1, hb2⟩ := tmod8 kind
  have h0 := h.keep ((Only.refl [] w).alloc (.cells #[.int .i64 kind, .int .i64 c, .int .u64 v, .int .u64 u] 52)) (by simp) (by simp) (by simp) (by simp)
  have H0 := Lib.hid h0
  have lb := h.ltb
  have lm := h.p.lt
  have HC := Lib.hid hc
  clear hc
  clear h h0
  go_enter Try.func33, Try.ntmps33
  go_wp2_with fail
  refine (refAcc_out _ 49 b 0 rc [] [] s 5 c v 0 H0.out.r rfl HC.out).mono ?_
  rintro e w1 ⟨rfl, rfl⟩
  go_wp2_with fail
  refine (memAnd_out _ m bc s c v H0.out.p HC.out).mono ?_
  rintro e w2 ⟨rfl, o2⟩
  have P := Lib.hid (H0.out.keep o2 (by simp) (by simp) (by simp) (by simp))
  have O := Lib.hid (((Only.refl [m, bc, b, rc] w).alloc (.cells #[.int .i64 kind, .int .i64 c, .int .u64 v, .int .u64 u] 52)).then0 o2)
  clear o2
  go_wp2_with fail
  go_ret
  exact ⟨s, rfl, O.out, P.out, rfl, by omega⟩

theorem act5_in (w : World) (m bc b rc : Nat) (s : MS) (kind c v u : Int) (h : Pair w m bc b rc s) (hn : s.count ≤ 2000000000000000000)
    (hK : (kind.tmod 8 + 8).tmod 8 = 5) (k : Nat) (hck : c = (k : Int)) (hk : k < s.cells.length) (x : Int) (hx : s.cells[k] = x) :
    Calls Try.prog 33 #[.pointer (some ⟨m, 0, none⟩), .pointer (some ⟨b, 0, none⟩), .agg #[.int .i64 kind, .int .i64 c, .int .u64 v, .int .u64 u]] w (ActPost w m bc b rc s) := by
  obtain ⟨hb1, hb2⟩ := tmod8 kind
  have h0 := h.keep ((Only.refl [] w).alloc (.cells #[.int .i64 kind, .int .i64 c, .int .u64 v, .int .u64 u] 52)) (by simp) (by simp) (by simp) (by simp)
  have H0 := Lib.hid h0
  have lb := h.ltb
  have lm := h.p.lt
  have lr := h.ltr (by omega)
  have lc := h.p.ltc (by omega)
  have HX := Lib.hid hx
  have HC := Lib.hid hck
  clear hx hck
  clear h h0
  go_enter Try.func33, Try.ntmps33
  go_wp2_with fail
  refine (refAcc6_in _ 49 b 0 rc [] [] s c k HC.out x v 0 H0.out.r rfl hk HX.out (by omega)).mono ?_
  rintro e w1 ⟨rfl, o1, r1⟩
  have q1 := H0.out.mem1 o1
  have bx := o1.keep (blk_alloc_new w _) (by simp; omega)
  have x0 := cell_blk bx 0
  have x1 := cell_blk bx 1
  have x2 := cell_blk bx 2
  have x3 := cell_blk bx 3
  simp at x0 x1 x2 x3
  have HB := Lib.hid bx
  have HR := Lib.hid r1
  have HO := Lib.hid o1
  clear bx r1 o1
  go_wp2_with fail
  refine (memAdd_in _ m bc s c k HC.out x v q1 hk HX.out (by omega)).mono ?_
  rintro e w2 ⟨rfl, o2, p2⟩
  have P := Lib.hid (H0.out.both HR.out o2 p2 (by simp only [MS.acc]; omega))
  have O := Lib.hid (both_only HO.out o2)
  clear o2 p2 q1
  go_wp2_with fail
  go_ret
  exact ⟨_, rfl, O.out, P.out, by simp [MS.acc], by simp [MS.acc]⟩

theorem act5_out (w : World) (m bc b rc : Nat) (s : MS) (kind c v u : Int) (h : Pair w m bc b rc s) (hn : s.count ≤ 2000000000000000000)
    (hK : (kind.tmod 8 + 8).tmod 8 = 5) (hc : c < 0 ∨ s.cells.length ≤ c) :
    Calls Try.prog 33 #[.pointer (some ⟨m, 0, none⟩), .pointer (some ⟨b, 0, none⟩), .agg #[.int .i64 kind, .int .i64 c, .int .u64 v, .int .u64 u]] w (ActPost w m bc b rc s) := by
  obtain ⟨hb1, hb2⟩ := tmod8 kind
  have h0 := h.keep ((Only.refl [] w).alloc (.cells #[.int .i64 kind, .int .i64 c, .int .u64 v, .int .u64 u] 52)) (by simp) (by simp) (by simp) (by simp)
  have H0 := Lib.hid h0
  have lb := h.ltb
  have lm := h.p.lt
  have HC := Lib.hid hc
  clear hc
  clear h h0
  go_enter Try.func33, Try.ntmps33
  go_wp2_with fail
  refine (refAcc_out _ 49 b 0 rc [] [] s 6 c v 0 H0.out.r rfl HC.out).mono ?_
  rintro e w1 ⟨rfl, rfl⟩
  go_wp2_with fail
  refine (memAdd_out _ m bc s c v H0.out.p HC.out).mono ?_
  rintro e w2 ⟨rfl, o2⟩
  have P := Lib.hid (H0.out.keep o2 (by simp) (by simp) (by simp) (by simp))
  have O := Lib.hid (((Only.refl [m, bc, b, rc] w).alloc (.cells #[.int .i64 kind, .int .i64 c, .int .u64 v, .int .u64 u] 52)).then0 o2)
  clear o2
  go_wp2_with fail
  go_ret
  exact ⟨s, rfl, O.out, P.out, rfl, by omega⟩

theorem act6_in (w : World) (m bc b rc : Nat) (s : MS) (kind c v u : Int) (h : Pair w m bc b rc s) (hn : s.count ≤ 2000000000000000000)
    (hK : (kind.tmod 8 + 8).tmod 8 = 6) (k : Nat) (hck : c = (k : Int)) (hk : k < s.cells.length) (x : Int) (hx : s.cells[k] = x) :
    Calls Try.prog 33 #[.pointer (some ⟨m, 0, none⟩), .pointer (some ⟨b, 0, none⟩), .agg #[.int .i64 kind, .int .i64 c, .int .u64 v, .int .u64 u]] w (ActPost w m bc b rc s) := by
  obtain ⟨hb1, hb2⟩ := tmod8 kind
  have h0 := h.keep ((Only.refl [] w).alloc (.cells #[.int .i64 kind, .int .i64 c, .int .u64 v, .int .u64 u] 52)) (by simp) (by simp) (by simp) (by simp)
  have H0 := Lib.hid h0
  have lb := h.ltb
  have lm := h.p.lt
  have HX := Lib.hid hx
  have HC := Lib.hid hck
  clear hx hck
  clear h h0
  go_enter Try.func33, Try.ntmps33
  go_wp2_with fail
  go_quiet ((first
    | (go_at_call 23; exact quietS (memPeek_in _ m bc _ c k HC.out x (H0.out.p.drewN _) hk HX.out))
    | (go_at_call 45; exact quietS (refPeek_in _ 49 b 0 rc [] [] _ c k HC.out x (H0.out.r.drewN _) rfl hk HX.out))))
  go_wp2_with fail
  go_ret
  exact ⟨s, rfl, ((Only.refl [m, bc, b, rc] w).alloc _).drewN _, H0.out.drewN _, rfl, by omega⟩

theorem act6_out (w : World) (m bc b rc : Nat) (s : MS) (kind c v u : Int) (h : Pair w m bc b rc s) (hn : s.count ≤ 2000000000000000000)
    (hK : (kind.tmod 8 + 8).tmod 8 = 6) (hc : c < 0 ∨ s.cells.length ≤ c) :
    Calls Try.prog 33 #[.pointer (some ⟨m, 0, none⟩), .pointer (some ⟨b, 0, none⟩), .agg #[.int .i64 kind, .int .i64 c, .int .u64 v, .int .u64 u]] w (ActPost w m bc b rc s) := by
  obtain ⟨hb1, hb2⟩ := tmod8 kind
  have h0 := h.keep ((Only.refl [] w).alloc (.cells #[.int .i64 kind, .int .i64 c, .int .u64 v, .int .u64 u] 52)) (by simp) (by simp) (by simp) (by simp)
  have H0 := Lib.hid h0
  have lb := h.ltb
  have lm := h.p.lt
  have HC := Lib.hid hc
  clear hc
  clear h h0
  go_enter Try.func33, Try.ntmps33
  go_wp2_with fail
  go_quiet ((first
    | (go_at_call 23; exact quietS (memPeek_out _ m bc _ c (H0.out.p.drewN _) HC.out))
    | (go_at_call 45; exact quietS (refPeek_out _ 49 b 0 rc [] [] _ c (H0.out.r.drewN _) rfl HC.out))))
  go_wp2_with fail
  go_ret
  exact ⟨s, rfl, ((Only.refl [m, bc, b, rc] w).alloc _).drewN _, H0.out.drewN _, rfl, by omega⟩

theorem act7_in (w : World) (m bc b rc : Nat) (s : MS) (kind c v u : Int) (h : Pair w m bc b rc s) (hn : s.count ≤ 2000000000000000000)
    (hK : (kind.tmod 8 + 8).tmod 8 = 7) (k : Nat) (hck : c = (k : Int)) (hk : k < s.cells.length) (x : Int) (hx : s.cells[k] = x) :
    Calls Try.prog 33 #[.pointer (some ⟨m, 0, none⟩), .pointer (some ⟨b, 0, none⟩), .agg #[.int .i64 kind, .int .i64 c, .int .u64 v, .int .u64 u]] w (ActPost w m bc b rc s) := by
  obtain ⟨hb1, hb2⟩ := tmod8 kind
  have h0 := h.keep ((Only.refl [] w).alloc (.cells #[.int .i64 kind, .int .i64 c, .int .u64 v, .int .u64 u] 52)) (by simp) (by simp) (by simp) (by simp)
  have H0 := Lib.hid h0
  have lb := h.ltb
  have lm := h.p.lt
  have HX := Lib.hid hx
  have HC := Lib.hid hck
  clear hx hck
  clear h h0
  go_enter Try.func33, Try.ntmps33
  go_wp2_with fail
  go_quiet ((first
    | (go_at_call 23; exact quietS (memPeek_in _ m bc _ c k HC.out x (H0.out.p.drewN _) hk HX.out))
    | (go_at_call 45; exact quietS (refPeek_in _ 49 b 0 rc [] [] _ c k HC.out x (H0.out.r.drewN _) rfl hk HX.out))))
  go_wp2_with fail
  go_ret
  exact ⟨s, rfl, ((Only.refl [m, bc, b, rc] w).alloc _).drewN _, H0.out.drewN _, rfl, by omega⟩

theorem act7_out (w : World) (m bc b rc : Nat) (s : MS) (kind c v u : Int) (h : Pair w m bc b rc s) (hn : s.count ≤ 2000000000000000000)
    (hK : (kind.tmod 8 + 8).tmod 8 = 7) (hc : c < 0 ∨ s.cells.length ≤ c) :
    Calls Try.prog 33 #[.pointer (some ⟨m, 0, none⟩), .pointer (some ⟨b, 0, none⟩), .agg #[.int .i64 kind, .int .i64 c, .int .u64 v, .int .u64 u]] w (ActPost w m bc b rc s) := by
  obtain ⟨hb1, hb2⟩ := tmod8 kind
  have h0 := h.keep ((Only.refl [] w).alloc (.cells #[.int .i64 kind, .int .i64 c, .int .u64 v, .int .u64 u] 52)) (by simp) (by simp) (by simp) (by simp)
  have H0 := Lib.hid h0
  have lb := h.ltb
  have lm := h.p.lt
  have HC := Lib.hid hc
  clear hc
  clear h h0
  go_enter Try.func33, Try.ntmps33
  go_wp2_with fail
  go_quiet ((first
    | (go_at_call 23; exact quietS (memPeek_out _ m bc _ c (H0.out.p.drewN _) HC.out))
    | (go_at_call 45; exact quietS (refPeek_out _ 49 b 0 rc [] [] _ c (H0.out.r.drewN _) rfl HC.out))))
  go_wp2_with fail
  go_ret
  exact ⟨s, rfl, ((Only.refl [m, bc, b, rc] w).alloc _).drewN _, H0.out.drewN _, rfl, by omega⟩

end Go.Proofs.Ytiijgnnejdcedaa
