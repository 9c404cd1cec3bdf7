/- The reference's machines of deques and bits: which line is performed. -/
import Derived.Test.YtlklfpbimoolbaaGreatRefPush
import Derived.Test.YtlklfpbimoolbaaGreatRefPop
import Derived.Test.YtlklfpbimoolbaaGreatRefSteal
import Derived.Test.YtlklfpbimoolbaaGreatRefClear
namespace Go.Proofs.YtlklfpbimoolbaaGreat
open Go.RowKit
set_option linter.unusedVariables false
set_option linter.unusedSimpArgs false

theorem rpush_any (w : World) (fb r rc : Nat) (now : Int) (k : K) (s : MS) (hk : k.kind = 0) (hok : k.ok) (ho : k.over = false) (h0 : k.code = 0 ∧ k.val = 0) (hA : RAp fb r rc) (hrc : rc < w.heap.size) (hF : w.heap[fb]? = some (frmO k)) (hR : REnvAt w r rc s now) (hn : s.count ≤ 4000000000000000000) :
    Calls Tryz.prog 90 #[.pointer (some ⟨r, 0, none⟩), .pointer (some ⟨fb, 0, none⟩)] w (RLeaf fb r rc now k s w) := by
  have h1 := hok.line
  by_cases e1 : k.line = 1
  · exact rpush_1 w fb r rc now k s hk e1 ho h0 hA hrc hF hR hn
  by_cases e2 : k.line = 2
  · exact rpush_2 w fb r rc now k s hk e2 ho h0 hA hrc hF hR hn
  by_cases e3 : k.line = 3
  · exact rpush_3 w fb r rc now k s hk e3 ho h0 hok hA hrc hF hR hn
  exact rpush_4 w fb r rc now k s hk (by omega) h1.2 ho h0 hA hrc hF hR hn

theorem rsteal_any (w : World) (fb r rc : Nat) (now : Int) (k : K) (s : MS) (hk : k.kind = 2) (hok : k.ok) (ho : k.over = false) (h0 : k.code = 0 ∧ k.val = 0) (hA : RAp fb r rc) (hrc : rc < w.heap.size) (hF : w.heap[fb]? = some (frmO k)) (hR : REnvAt w r rc s now) (hn : s.count ≤ 4000000000000000000) :
    Calls Tryz.prog 92 #[.pointer (some ⟨r, 0, none⟩), .pointer (some ⟨fb, 0, none⟩)] w (RLeaf fb r rc now k s w) := by
  have h1 := hok.line
  by_cases e1 : k.line = 1
  · exact rsteal_1 w fb r rc now k s hk e1 ho h0 hA hrc hF hR hn
  by_cases e2 : k.line = 2
  · exact rsteal_2 w fb r rc now k s hk e2 ho h0 hA hrc hF hR hn
  by_cases e3 : k.line = 3
  · exact rsteal_3 w fb r rc now k s hk e3 ho h0 hok hA hrc hF hR hn
  exact rsteal_4 w fb r rc now k s hk (by omega) h1.2 ho h0 hA hrc hF hR hn

theorem rclear_any (w : World) (fb r rc : Nat) (now : Int) (k : K) (s : MS) (hk : k.kind = 4) (hok : k.ok) (ho : k.over = false) (h0 : k.code = 0 ∧ k.val = 0) (hA : RAp fb r rc) (hrc : rc < w.heap.size) (hF : w.heap[fb]? = some (frmO k)) (hR : REnvAt w r rc s now) (hn : s.count ≤ 4000000000000000000) :
    Calls Tryz.prog 96 #[.pointer (some ⟨r, 0, none⟩), .pointer (some ⟨fb, 0, none⟩)] w (RLeaf fb r rc now k s w) := by
  have h1 := hok.line
  by_cases e1 : k.line = 1
  · exact rclear_1 w fb r rc now k s hk e1 ho h0 hA hrc hF hR hn
  by_cases e2 : k.line = 2
  · exact rclear_2 w fb r rc now k s hk e2 ho h0 hA hrc hF hR hn
  by_cases e3 : k.line = 3
  · exact rclear_3 w fb r rc now k s hk e3 ho h0 hA hrc hF hR hn
  exact rclear_4 w fb r rc now k s hk (by omega) h1.2 ho h0 hA hrc hF hR hn

theorem rpop_any (w : World) (fb r rc : Nat) (now : Int) (k : K) (s : MS) (hk : k.kind = 1) (hok : k.ok) (ho : k.over = false) (h0 : k.code = 0 ∧ k.val = 0) (hA : RAp fb r rc) (hrc : rc < w.heap.size) (hF : w.heap[fb]? = some (frmO k)) (hR : REnvAt w r rc s now) (hn : s.count ≤ 4000000000000000000) :
    Calls Tryz.prog 91 #[.pointer (some ⟨r, 0, none⟩), .pointer (some ⟨fb, 0, none⟩)] w (RLeaf fb r rc now k s w) := by
  have h1 := hok.line
  rcases (show k.line = 1 ∨ k.line = 2 ∨ k.line = 3 ∨ k.line = 4 ∨ k.line = 5 ∨ k.line = 6 ∨ k.line = 7 ∨ k.line = 8 ∨ k.line = 9 from by omega) with e | e | e | e | e | e | e | e | e
  · exact rpop_1 w fb r rc now k s hk e ho h0 hA hrc hF hR hn
  · exact rpop_2 w fb r rc now k s hk e ho h0 hA hrc hF hR hn
  · exact rpop_3 w fb r rc now k s hk e ho h0 hA hrc hF hR hn
  · exact rpop_4 w fb r rc now k s hk e ho h0 hA hrc hF hR hn
  · exact rpop_5 w fb r rc now k s hk e ho h0 hok hA hrc hF hR hn
  · exact rpop_6 w fb r rc now k s hk e ho h0 hA hrc hF hR hn
  · exact rpop_7 w fb r rc now k s hk e ho h0 hA hrc hF hR hn
  · exact rpop_8 w fb r rc now k s hk e ho h0 hok hA hrc hF hR hn
  · exact rpop_9 w fb r rc now k s hk e ho h0 hA hrc hF hR hn

/-- A line performed by another function, its result laid in place. -/
theorem RLeaf.over {w w1 : World} {tb fb r rc : Nat} {now : Int} {k : K} {s : MS} (IN : RIn w (w.alloc resO) tb fb r rc now k s) (hA : RAp fb r rc) (h : RLeaf fb r rc now k s (w.alloc resO) (.returned (.agg #[.bool (stepK k s).1.over, .int .i64 (stepK k s).1.code, .int .i64 (stepK k s).1.val])) w1) :
    w1.heap[tb]? = some resO ∧ RLeaf fb r rc now k s w (.returned (.agg #[.bool (stepK k s).1.over, .int .i64 (stepK k s).1.code, .int .i64 (stepK k s).1.val])) (((w1.setCell ⟨tb, 0, none⟩ (.bool (stepK k s).1.over)).setCell ⟨tb, 1, none⟩ (.int .i64 (stepK k s).1.code)).setCell ⟨tb, 2, none⟩ (.int .i64 (stepK k s).1.val)) := by
  obtain ⟨_, o, f, e⟩ := h
  have n1 := IN.n1
  have n2 := IN.n2
  have n3 := IN.n3
  have t1 := o.keep IN.t (by simp; omega)
  exact ⟨t1, RLeaf.fin (k' := (stepK k s).1) (s' := (stepK k s).2) rfl rfl rfl rfl t1 f e ((IN.o.mono (T := [fb, r, rc]) (by simp)).trans o (by simp)) n1 n2 n3 IN.n4⟩

set_option maxRecDepth 100000 in
set_option maxHeartbeats 1000000 in
theorem leaf_of (n : Nat) (F : FuncId) (w : World) (fb r rc : Nat) (now : Int) (k : K) (s : MS) (hk : k.kind = n) (hA : RAp fb r rc) (hrc : rc < w.heap.size) (hF : w.heap[fb]? = some (frmO k)) (hR : REnvAt w r rc s now)
    (hn : (n = 0 ∧ F = 90) ∨ (n = 1 ∧ F = 91) ∨ (n = 2 ∧ F = 92) ∨ (n = 4 ∧ F = 96))
    (hC : Calls Tryz.prog F #[.pointer (some ⟨r, 0, none⟩), .pointer (some ⟨fb, 0, none⟩)] (w.alloc resO) (RLeaf fb r rc now k s (w.alloc resO))) :
    Calls Tryz.prog 75 #[.pointer (some ⟨r, 0, none⟩), .pointer (some ⟨fb, 0, none⟩)] w (RLeaf fb r rc now k s w) := by
  have IN := Lib.hid (RIn.new hF hR hrc)
  have HA := Lib.hid hA
  have HC := Lib.hid hC
  have c0 := cell_blk IN.out.f 0
  simp [frmC] at c0
  have hlt := lt_of_blk hF
  obtain ⟨kk, hkk⟩ : ∃ kk, kk = (stepK k s).1 := ⟨_, rfl⟩
  have OV := Lib.hid (fun w1 h => RLeaf.over (w1 := w1) IN.out hA h)
  rw [← hkk] at OV
  have HC2 : Hid (Calls Tryz.prog F #[.pointer (some ⟨r, 0, none⟩), .pointer (some ⟨fb, 0, none⟩)] (w.alloc resO) fun e w1 => e = .returned (.agg #[.bool kk.over, .int .i64 kk.code, .int .i64 kk.val]) ∧ RLeaf fb r rc now k s (w.alloc resO) (.returned (.agg #[.bool kk.over, .int .i64 kk.code, .int .i64 kk.val])) w1) := Lib.hid (hC.mono (by
    rintro e w1 ⟨h1, h2⟩
    rw [← hkk] at h1
    subst h1
    exact ⟨rfl, by rw [hkk], h2⟩))
  rw [hk] at c0
  clear hA hF hR hC hkk HC hk
  unfold resO at c0
  rcases hn with ⟨rfl, rfl⟩ | ⟨rfl, rfl⟩ | ⟨rfl, rfl⟩ | ⟨rfl, rfl⟩
  all_goals
    go_enter Tryz.func75, Tryz.ntmps75
    go_wp2_with fail
    refine HC2.out.mono ?_; rintro e w1 ⟨rfl, h1⟩
    obtain ⟨t1, h2⟩ := OV.out w1 h1
    have H2 := Lib.hid h2
    have t00 := cell_blk t1 0
    have t01 := cell_blk t1 1
    have t02 := cell_blk t1 2
    have t10 := free_blk t1 0
    have t11 := free_blk t1 1
    have t12 := free_blk t1 2
    simp at t00 t01 t02
    clear t1 h1 h2
    go_wp2_with fail
    refine bodyPost_ret (v := .agg #[.bool kk.over, .int .i64 kk.code, .int .i64 kk.val]) (by simp [results, Tryz.results75, go_sem, t00, t01, t02]) rfl ?_
    exact H2.out

set_option maxRecDepth 100000 in
set_option maxHeartbeats 1000000 in
theorem leaf_set (w : World) (fb r rc : Nat) (now : Int) (k : K) (s : MS) (hk : k.kind = 3) (ho : k.over = false) (hA : RAp fb r rc) (hrc : rc < w.heap.size) (hF : w.heap[fb]? = some (frmO k)) (hR : REnvAt w r rc s now) (hn : s.count ≤ 4000000000000000000) :
    Calls Tryz.prog 75 #[.pointer (some ⟨r, 0, none⟩), .pointer (some ⟨fb, 0, none⟩)] w (RLeaf fb r rc now k s w) := by
  have hs : stepK k s = (k.fin 0 0, s.put 4 k.a (orB (s.at k.a) (mask k.b))) := by unfold stepK; simp [ho, hk]
  have HS := Lib.hid hs
  have IN := Lib.hid (RIn.new hF hR hrc)
  have HA := Lib.hid hA
  have c0 := cell_blk IN.out.f 0
  simp [frmC, hk] at c0
  have hlt := lt_of_blk hF
  obtain ⟨tb, htb⟩ : ∃ tb, tb = w.heap.size := ⟨_, rfl⟩
  have HTB := Lib.hid htb.symm
  clear hs hA hR hF ho hk
  unfold resO at c0
  go_enter Tryz.func75, Tryz.ntmps75
  go_wp2_with fail
  clear c0
  obtain ⟨w0, hw0⟩ : ∃ w0, w0 = w.alloc (.cells #[.bool false, .int .i64 0, .int .i64 0] 179) := ⟨_, rfl⟩
  rw [← hw0]
  rw [HTB.out]
  have IN0 : Hid (RIn w w0 tb fb r rc now k s) := Lib.hid (by rw [hw0, htb]; exact IN.out)
  have c6 := cell_blk IN0.out.f 6
  have c7 := cell_blk IN0.out.f 7
  simp [frmC] at c6 c7
  clear hw0 htb
  have n1 : fb ≠ tb := HTB.out ▸ IN.out.n1
  have n2 : tb ≠ fb := fun e => n1 e.symm
  go_region_held3 (fun w' => w'.cell? ⟨fb, 6, none⟩ = some (.int .i64 k.a) ∧ w'.cell? ⟨fb, 7, none⟩ = some (.int .i64 k.b))
    (first | exact ⟨c6, c7⟩ | exact ⟨d6, d7⟩)
    ((first
      | (go_at_call 94; refine (refMask_any _ k.b).mono ?_; rintro e wm ⟨rfl, rfl⟩)
      | (go_at_call 93; refine (ror_any w0.drew r rc s now k.a (mask k.b) IN0.out.drew.e hn).mono ?_; rintro e w1 ⟨rfl, o1, h1⟩
         obtain ⟨t1, f1, o2⟩ := IN0.out.drew.acc HA.out o1 h1
         have T1 := Lib.hid t1
         have F1 := Lib.hid f1
         have O2 := Lib.hid o2
         have E1 := Lib.hid h1
         have d6 := cell_blk f1 6
         have d7 := cell_blk f1 7
         simp [frmC] at d6 d7
         clear o1 h1 t1 f1 o2)))
  go_wp2_with fail
  refine (end8_any _ 0 0).mono ?_; rintro e w9 ⟨rfl, o9⟩
  have T9 := o9.keep T1.out (by simp)
  have t00 := cell_blk T9 0
  have t01 := cell_blk T9 1
  have t02 := cell_blk T9 2
  have t10 := free_blk T9 0
  have t11 := free_blk T9 1
  have t12 := free_blk T9 2
  simp at t00 t01 t02
  have O9 := Lib.hid o9
  clear o9 T9
  go_wp2_with fail
  refine bodyPost_ret (v := .agg #[.bool true, .int .i64 0, .int .i64 0]) (by simp [results, Tryz.results75, go_sem, t00, t01, t02]) rfl ?_
  have o9 := O9.out
  exact RLeaf.fin HS.out rfl rfl rfl (o9.keep T1.out (by simp)) (o9.keep F1.out (by simp)) (E1.out.keep0 o9) (O2.out.then0 o9) n1 (HTB.out ▸ IN.out.n2) (HTB.out ▸ IN.out.n3) (HTB.out ▸ IN.out.n4)

theorem leaf_any (w : World) (fb r rc : Nat) (now : Int) (k : K) (s : MS) (hk : k.kind ≤ 4) (hok : k.ok) (ho : k.over = false) (h0 : k.code = 0 ∧ k.val = 0) (hA : RAp fb r rc) (hrc : rc < w.heap.size) (hF : w.heap[fb]? = some (frmO k)) (hR : REnvAt w r rc s now) (hn : s.count ≤ 4000000000000000000) :
    Calls Tryz.prog 75 #[.pointer (some ⟨r, 0, none⟩), .pointer (some ⟨fb, 0, none⟩)] w (RLeaf fb r rc now k s w) := by
  have IN := RIn.new hF hR hrc
  have hrc2 : rc < (w.alloc resO).heap.size := by simp; omega
  rcases (show k.kind = 0 ∨ k.kind = 1 ∨ k.kind = 2 ∨ k.kind = 3 ∨ k.kind = 4 from by omega) with e | e | e | e | e
  · exact leaf_of 0 _ w fb r rc now k s e hA hrc hF hR (.inl ⟨rfl, rfl⟩) (rpush_any _ fb r rc now k s e hok ho h0 hA hrc2 IN.f IN.e hn)
  · exact leaf_of 1 _ w fb r rc now k s e hA hrc hF hR (.inr (.inl ⟨rfl, rfl⟩)) (rpop_any _ fb r rc now k s e hok ho h0 hA hrc2 IN.f IN.e hn)
  · exact leaf_of 2 _ w fb r rc now k s e hA hrc hF hR (.inr (.inr (.inl ⟨rfl, rfl⟩))) (rsteal_any _ fb r rc now k s e hok ho h0 hA hrc2 IN.f IN.e hn)
  · exact leaf_set w fb r rc now k s e ho hA hrc hF hR hn
  · exact leaf_of 4 _ w fb r rc now k s e hA hrc hF hR (.inr (.inr (.inr ⟨rfl, rfl⟩))) (rclear_any _ fb r rc now k s e hok ho h0 hA hrc2 IN.f IN.e hn)
end Go.Proofs.YtlklfpbimoolbaaGreat
