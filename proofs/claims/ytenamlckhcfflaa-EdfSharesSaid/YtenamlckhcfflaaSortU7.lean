/- Sorting words: the choice of the pivot (its bounds alone; printed by gen_sort7.py). -/
import Derived.Test.YtenamlckhcfflaaSortU1
namespace Go.Proofs.Ytenamlckhcfflaa
open Go.RowKit Go.Sort
set_option linter.unusedVariables false

/-- The counter of swaps at block sb. -/
def SwAt (w : World) (sb S : Nat) : Prop := w.heap[sb]? = some (.cells #[.int .i64 (S : Int)] 3 (0, 0))

/-- What the choice among two comes to. -/
def OrdEnd (b sb x y S : Nat) (d : Array Int) (w : World) (e : Ending) (w' : World) : Prop :=
  ∃ x' y' S' : Nat, e = .returned (.tuple #[.int .i64 x', .int .i64 y']) ∧ ((x' = x ∧ y' = y) ∨ (x' = y ∧ y' = x)) ∧ S' ≤ S + 1 ∧ Only [sb] w w' ∧ SwAt w' sb S'

set_option maxRecDepth 100000 in
theorem ord2_any (w : World) (b cap n sb x y S : Nat) (d : Array Int) (h : Rw w b d) (hn : d.size = n) (hx : x < n) (hy : y < n) (hs : SwAt w sb S) (hS : S ≤ 1000) (hsz : n ≤ 4000000000000) :
    Calls Try.prog 42 #[.slice (some ⟨b, 0, none⟩) n cap, .int .i64 x, .int .i64 y, .pointer (some ⟨sb, 0, none⟩)] w (OrdEnd b sb x y S d w) := by
  obtain ⟨G, hG⟩ : ∃ G : Nat → Int, ∀ t, G t = d[t]! := ⟨fun t => d[t]!, fun _ => rfl⟩
  have c1 := h.cell x (by omega)
  have c2 := h.cell y (by omega)
  rw [← hG] at c1 c2
  have H := Lib.hid h
  have HS := Lib.hid hs
  clear h hG hs hn
  go_enter Try.func42, Try.ntmps42
  go_wp2_with fail
  go_quiet ((go_at_call 31; exact Calls.quiet_of_same (less_any _ _ _)))
  have oq : Only [] w (w.drewN nq) := (Only.refl [] w).drewN nq
  generalize hwq : w.drewN nq = wq at oq ⊢
  have HS2 := Lib.hid (oq.keep (show w.heap[sb]? = some _ from HS.out) (by simp))
  have OQ := Lib.hid oq
  have c0 := cell_blk HS2.out 0
  have f0 := free_blk HS2.out 0
  simp at c0
  clear oq hwq c1 c2
  cases hl : ltInt (G y) (G x)
  · clear hl
    go_wp2_with fail
    go_ret2
    exact ⟨x, y, S, rfl, .inl ⟨rfl, rfl⟩, by omega, OQ.out.mono (by simp), HS2.out⟩
  · clear hl
    go_wp2_with fail
    go_ret2
    refine ⟨y, x, S + 1, rfl, .inr ⟨rfl, rfl⟩, Nat.le_refl _, (OQ.out.mono (by simp)).setCell (by simp) _, ?_⟩
    have := blk_setCell HS2.out 0 (.int .i64 ((S : Int) + 1))
    unfold SwAt
    rw [this]
    simp

/-- What the choice among three comes to: r lies between lo and hi, as the three do. -/
def MedEnd (sb lo hi S : Nat) (w : World) (e : Ending) (w' : World) : Prop :=
  ∃ r S' : Nat, e = .returned (.int .i64 r) ∧ lo ≤ r ∧ r < hi ∧ S' ≤ S + 3 ∧ Only [sb] w w' ∧ SwAt w' sb S'

set_option maxRecDepth 100000 in
theorem med_any (w : World) (b cap n sb x y z S lo hi : Nat) (d : Array Int) (h : Rw w b d) (hn : d.size = n) (hx : lo ≤ x ∧ x < hi) (hy : lo ≤ y ∧ y < hi) (hz : lo ≤ z ∧ z < hi) (hhi : hi ≤ n) (hs : SwAt w sb S) (hne : b ≠ sb) (hS : S ≤ 900) (hsz : n ≤ 4000000000000) :
    Calls Try.prog 40 #[.slice (some ⟨b, 0, none⟩) n cap, .int .i64 x, .int .i64 y, .int .i64 z, .pointer (some ⟨sb, 0, none⟩)] w (MedEnd sb lo hi S w) := by
  have H := Lib.hid h
  have HS := Lib.hid hs
  have HN := Lib.hid hn
  clear h hs hn
  go_enter Try.func40, Try.ntmps40
  go_wp2_with fail
  refine (ord2_any w b cap n sb x y S d H.out HN.out (by omega) (by omega) HS.out (by omega) hsz).mono ?_; rintro e w1 ⟨x1, y1, S1, rfl, hxy1, hS1, o1, s1⟩
  have O1 := Lib.hid o1
  have H1 := Lib.hid (H.out.keep o1 (by simpa using hne))
  have Z1 := Lib.hid s1
  have g1 : (lo ≤ x1 ∧ x1 < hi) ∧ (lo ≤ y1 ∧ y1 < hi) := by omega
  clear o1 s1 hxy1
  go_wp2_with fail
  refine (ord2_any w1 b cap n sb y1 z S1 d H1.out HN.out (by omega) (by omega) Z1.out (by omega) hsz).mono ?_; rintro e w2 ⟨y2, z2, S2, rfl, hyz2, hS2, o2, s2⟩
  have O2 := Lib.hid (O1.out.trans o2 (by simp))
  have H2 := Lib.hid (H1.out.keep o2 (by simpa using hne))
  have Z2 := Lib.hid s2
  have g2 : (lo ≤ y2 ∧ y2 < hi) ∧ (lo ≤ z2 ∧ z2 < hi) := by omega
  clear o2 s2 hyz2
  go_wp2_with fail
  refine (ord2_any w2 b cap n sb x1 y2 S2 d H2.out HN.out (by omega) (by omega) Z2.out (by omega) hsz).mono ?_; rintro e w3 ⟨x3, y3, S3, rfl, hxy3, hS3, o3, s3⟩
  have O3 := Lib.hid (O2.out.trans o3 (by simp))
  have Z3 := Lib.hid s3
  have g3 : lo ≤ y3 ∧ y3 < hi := by omega
  clear o3 s3 hxy3
  go_wp2_with fail
  go_ret
  exact ⟨y3, S3, rfl, g3.1, g3.2, by omega, O3.out, Z3.out⟩

set_option maxRecDepth 100000 in
theorem medadj_any (w : World) (b cap n sb x S lo hi : Nat) (d : Array Int) (h : Rw w b d) (hn : d.size = n) (hx : lo + 1 ≤ x ∧ x + 1 < hi) (hhi : hi ≤ n) (hs : SwAt w sb S) (hne : b ≠ sb) (hS : S ≤ 900) (hsz : n ≤ 4000000000000) :
    Calls Try.prog 39 #[.slice (some ⟨b, 0, none⟩) n cap, .int .i64 x, .pointer (some ⟨sb, 0, none⟩)] w (MedEnd sb lo hi S w) := by
  obtain ⟨x1, rfl⟩ : ∃ x1, x = x1 + 1 := ⟨x - 1, by omega⟩
  have M := Lib.hid (med_any w b cap n sb x1 (x1 + 1) (x1 + 2) S lo hi d h hn (by omega) (by omega) (by omega) hhi hs hne hS hsz)
  have e1 : (((x1 + 1 : Nat) : Int) - 1) = (x1 : Int) := by omega
  obtain ⟨x2, hx2⟩ : ∃ x2, x2 = x1 + 1 := ⟨_, rfl⟩
  obtain ⟨x3, hx3⟩ : ∃ x3, x3 = x1 + 2 := ⟨_, rfl⟩
  rw [← hx2, ← hx3] at M
  rw [← hx2] at e1 hx ⊢
  have e2 : ((x2 : Int) + 1) = (x3 : Int) := by omega
  clear h hs hn hx2 hx3
  go_enter Try.func39, Try.ntmps39
  go_wp2_with fail
  refine M.out.mono ?_; rintro e w1 ⟨r, S1, rfl, g1, g2, g3, o1, s1⟩
  have O1 := Lib.hid o1
  have Z1 := Lib.hid s1
  clear o1 s1
  go_wp2_with fail
  go_ret
  exact ⟨r, S1, rfl, g1, g2, g3, O1.out, Z1.out⟩

/-- What the choice of the pivot comes to. -/
def PivEnd (a e : Nat) (w : World) (en : Ending) (w' : World) : Prop := ∃ (p : Nat) (h : Int), en = .returned (.tuple #[.int .i64 p, .int .i64 h]) ∧ a ≤ p ∧ p < e ∧ Only [] w w'

theorem only_new {w w' : World} (o : Only [w.heap.size] w w') : Only [] w w' := o.mono (by simp)

set_option maxRecDepth 100000 in
set_option maxHeartbeats 2000000 in
theorem piv_any (w : World) (b cap n a e : Nat) (d : Array Int) (h : Rw w b d) (hn : d.size = n) (hae : a < e) (he : e ≤ n) (hsz : n ≤ 4000000000000) :
    Calls Try.prog 28 #[.slice (some ⟨b, 0, none⟩) n cap, .int .i64 a, .int .i64 e] w (PivEnd a e w) := by
  have hb := h.lt
  have H := Lib.hid h
  have HN := Lib.hid hn
  obtain ⟨l, hl⟩ : ∃ l, l = e - a := ⟨_, rfl⟩
  have hll : ((e : Int) - (a : Int)) = (l : Int) := by omega
  have hal : a + l = e := by omega
  obtain ⟨I, hI⟩ : ∃ I : Nat, I = a + l / 4 := ⟨_, rfl⟩
  obtain ⟨J, hJ⟩ : ∃ J : Nat, J = a + l / 4 * 2 := ⟨_, rfl⟩
  obtain ⟨K, hK⟩ : ∃ K : Nat, K = a + l / 4 * 3 := ⟨_, rfl⟩
  have eI : ((a : Int) + (l : Int) / 4) = (I : Int) := by omega
  have eJ : ((a : Int) + (l : Int) / 4 * 2) = (J : Int) := by omega
  have eK : ((a : Int) + (l : Int) / 4 * 3) = (K : Int) := by omega
  have bJ : a ≤ J ∧ J < e := by omega
  have b8 : 8 ≤ l → (a ≤ I ∧ I < e) ∧ (a ≤ K ∧ K < e) := by omega
  have b50 : 50 ≤ l → (a + 1 ≤ I ∧ I + 1 < e) ∧ (a + 1 ≤ J ∧ J + 1 < e) ∧ (a + 1 ≤ K ∧ K + 1 < e) := by omega
  have HB := Lib.hid (And.intro b8 b50)
  clear h hn hl hI hJ hK b8 b50
  have S0 : Hid (SwAt (w.alloc (.cells #[.int .i64 0] 3)) w.heap.size 0) := Lib.hid (show (w.alloc (.cells #[.int .i64 0] 3)).heap[w.heap.size]? = _ from blk_alloc_new _ _)
  have H0 := Lib.hid (H.out.keep ((Only.refl [] w).alloc (.cells #[.int .i64 0] 3)) (by simp))
  have O0 := Lib.hid ((Only.refl [w.heap.size] w).alloc (.cells #[.int .i64 0] 3))
  obtain ⟨sb, hsb⟩ : ∃ sb, sb = w.heap.size := ⟨_, rfl⟩
  have hne : b ≠ sb := by omega
  have HSB := Lib.hid hsb
  obtain ⟨w0, hw0⟩ : ∃ w0, w0 = w.alloc (.cells #[.int .i64 0] 3) := ⟨_, rfl⟩
  rw [← hsb, ← hw0] at S0 O0
  rw [← hw0] at H0
  have HW0 := Lib.hid hw0
  have FIN : Hid (∀ w', Only [sb] w w' → Only [] w w') := Lib.hid (fun w' o => o.mono (by simp; omega))
  clear hw0 hsb hb
  by_cases h8 : 8 ≤ l
  · by_cases h50 : 50 ≤ l
    · obtain ⟨⟨i1, i2⟩, ⟨j1, j2⟩, k1, k2⟩ := HB.out.2 h50
      go_enter Try.func28, Try.ntmps28
      go_wp2_with fail
      rw [← HW0.out, ← HSB.out]
      refine (medadj_any w0 b cap n sb I 0 a e d H0.out HN.out ⟨i1, i2⟩ he S0.out hne (by omega) hsz).mono ?_; rintro en w1 ⟨i, S1, rfl, gi1, gi2, gs1, o1, s1⟩
      have O1 := Lib.hid (O0.out.trans o1 (by simp))
      have H1 := Lib.hid (H0.out.keep o1 (by simpa using hne))
      have S1' := Lib.hid s1
      clear o1 s1
      go_wp2_with fail
      refine (medadj_any w1 b cap n sb J S1 a e d H1.out HN.out ⟨j1, j2⟩ he S1'.out hne (by omega) hsz).mono ?_; rintro en w2 ⟨j, S2, rfl, gj1, gj2, gs2, o2, s2⟩
      have O2 := Lib.hid (O1.out.trans o2 (by simp))
      have H2 := Lib.hid (H1.out.keep o2 (by simpa using hne))
      have S2' := Lib.hid s2
      clear o2 s2
      go_wp2_with fail
      refine (medadj_any w2 b cap n sb K S2 a e d H2.out HN.out ⟨k1, k2⟩ he S2'.out hne (by omega) hsz).mono ?_; rintro en w3 ⟨k, S3, rfl, gk1, gk2, gs3, o3, s3⟩
      have O3 := Lib.hid (O2.out.trans o3 (by simp))
      have H3 := Lib.hid (H2.out.keep o3 (by simpa using hne))
      have S3' := Lib.hid s3
      clear o3 s3
      go_wp2_with fail
      refine (med_any w3 b cap n sb i j k S3 a e d H3.out HN.out ⟨gi1, gi2⟩ ⟨gj1, gj2⟩ ⟨gk1, gk2⟩ he S3'.out hne (by omega) hsz).mono ?_; rintro en w4 ⟨p, S4, rfl, gp1, gp2, gs4, o4, s4⟩
      have OF := Lib.hid (FIN.out _ (O3.out.trans o4 (by simp)))
      have c0 := cell_blk s4 0
      simp at c0
      clear o4 s4
      go_wp2_with fail
      all_goals
        go_ret2
        exact ⟨p, _, rfl, by omega, by omega, OF.out⟩
    · obtain ⟨⟨i1, i2⟩, k1, k2⟩ := HB.out.1 h8
      go_enter Try.func28, Try.ntmps28
      go_wp2_with fail
      rw [← HW0.out, ← HSB.out]
      refine (med_any w0 b cap n sb I J K 0 a e d H0.out HN.out ⟨i1, i2⟩ bJ ⟨k1, k2⟩ he S0.out hne (by omega) hsz).mono ?_; rintro en w4 ⟨p, S4, rfl, gp1, gp2, gs4, o4, s4⟩
      have OF := Lib.hid (FIN.out _ (O0.out.trans o4 (by simp)))
      have c0 := cell_blk s4 0
      simp at c0
      clear o4 s4
      go_wp2_with fail
      all_goals
        go_ret2
        exact ⟨p, _, rfl, by omega, by omega, OF.out⟩
  · have OF := Lib.hid (FIN.out _ O0.out)
    rw [HW0.out] at OF
    obtain ⟨p, hp⟩ : ∃ p, p = J := ⟨_, rfl⟩
    rw [← hp] at eJ bJ
    have gp1 := bJ.1
    have gp2 := bJ.2
    clear hp
    go_enter Try.func28, Try.ntmps28
    go_wp2_with fail
    all_goals
      go_ret2
      exact ⟨p, _, rfl, by omega, by omega, OF.out⟩
end Go.Proofs.Ytenamlckhcfflaa
