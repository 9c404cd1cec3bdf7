/- The game's actors, walked: whether one is idle, how one begins. -/
import Derived.Test.YtfhkhknnoepfeaaGreatHistKit
import Derived.Test.YtfhkhknnoepfeaaGreatMachNew2
import Derived.Test.YtfhkhknnoepfeaaGreatBareEnv
import Derived.Deep.DeepCutAuto
namespace Go.Proofs.YtfhkhknnoepfeaaGreat
open Go.RowKit
set_option linter.unusedVariables false

/-- An actor's block: its number, what it is still to do, its machine, its operation. -/
def actO (num : Int) (av pv : Value) (o : HOp) : Obj := .cells #[.int .i64 num, av, pv, .int .i64 o.kind, .int .i64 o.mach, .int .i64 o.frm, .int .i64 o.to, .int .i64 o.code, .int .i64 o.value] 59 (0, 0)

theorem idle_nil (w : World) (ab : Nat) (num : Int) (ao : Option Addr) (n cap : Nat) (o : HOp) (h : w.heap[ab]? = some (actO num (.slice ao n cap) .nilIface o)) :
    Calls Tryz.prog 20 #[.pointer (some ⟨ab, 0, none⟩)] w fun e w' => e = .returned (.bool (decide (n = 0))) ∧ w = w' := by
  have c1 := cell_blk h 1
  have c2 := cell_blk h 2
  simp at c1 c2
  clear h
  go_enter Tryz.func20, Tryz.ntmps20
  go_wp2_with fail
  go_ret
  refine ⟨ret_bool ?_, rfl⟩
  first | rfl | simp [BEq.beq] | (rw [Bool.eq_iff_iff]; simp)
theorem idle_some (w : World) (ab : Nat) (num : Int) (av : Value) (kd p : Nat) (o : HOp) (h : w.heap[ab]? = some (actO num av (ifc kd p) o)) :
    Calls Tryz.prog 20 #[.pointer (some ⟨ab, 0, none⟩)] w fun e w' => e = .returned (.bool false) ∧ w = w' := by
  have c2 := cell_blk h 2
  simp at c2
  have n1 := ifc_nil kd p
  unfold ifc at c2 n1
  clear h
  go_enter Tryz.func20, Tryz.ntmps20
  go_wp2_with fail
  go_ret
  exact ⟨rfl, rfl⟩

/-- The rest of a slice of acts. -/
theorem acts_tail {w : World} {ao : Option Addr} {cap : Nat} {x : Int × Int} {r : List (Int × Int)} (h : CellsAt w ao (flatA (x :: r))) (hc : (x :: r).length ≤ cap) :
    ∃ b off, ao = some ⟨b, off, none⟩ ∧ w.cell? ⟨b, off, none⟩ = some (.int .i64 x.1) ∧ w.cell? ⟨b, off + 1, none⟩ = some (.int .i64 x.2) ∧ ∀ o, (0 < r.length → o = off + 2) → CellsAt w (some ⟨b, o, none⟩) (flatA r) := by
  obtain ⟨b, off, rfl, hcs⟩ := h (by rw [flatA_len]; simp)
  refine ⟨b, off, rfl, by have := hcs 0 (by rw [flatA_len]; simp); simpa [flatA] using this, by have := hcs 1 (by rw [flatA_len]; simp; omega); simpa [flatA] using this, fun o ho hp => ?_⟩
  rw [flatA_len] at hp
  have e := ho (by omega)
  subst e
  refine ⟨b, off + 2, rfl, fun j hj => ?_⟩
  have := hcs (j + 2) (by rw [flatA_len] at hj ⊢; simp; omega)
  rw [show off + 2 + j = off + (j + 2) by omega, this]
  rfl

/-- What a beginning leaves. -/
def BegPost (w : World) (ab : Nat) (num : Nat) (q : Q4) (pick : Nat) (x : Int × Int) (r : List (Int × Int)) (e : Ending) (w' : World) : Prop :=
  ∃ av p, e = .returned (.tuple #[]) ∧ Only [ab] w w' ∧ w'.heap[ab]? = some (actO num av (ifc (newK q x).kind p) (op0 num pick x)) ∧ ActsAt w' av r ∧ w'.heap[p]? = some (machO (newK q x)) ∧ w.heap.size ≤ p ∧ p < w'.heap.size ∧ (∀ b off n cap, av = .slice (some ⟨b, off, none⟩) n cap → ∃ off2 n2 cap2, w.cell? ⟨ab, 1, none⟩ = some (.slice (some ⟨b, off2, none⟩) n2 cap2))

/-- The boxes of a beginning: the deque's places, the act's value. -/
def BoxAt (w : World) (B : Nat) (qa qb qc qd xv : Int) : Prop :=
  w.cell? ⟨B, 0, none⟩ = some (.int .i64 qa) ∧ w.cell? ⟨B, 1, none⟩ = some (.int .i64 qb) ∧ w.cell? ⟨B, 2, none⟩ = some (.int .i64 qc) ∧ w.cell? ⟨B, 3, none⟩ = some (.int .i64 qd) ∧ w.cell? ⟨B + 1, 1, none⟩ = some (.int .i64 xv)
theorem BoxAt.keep {S : List Nat} {w w' : World} {B : Nat} {qa qb qc qd xv : Int} (h : BoxAt w B qa qb qc qd xv) (o : Only S w w') (h1 : B ∉ S) (h2 : B + 1 ∉ S) : BoxAt w' B qa qb qc qd xv :=
  ⟨o.keepCell h.1 h1, o.keepCell h.2.1 h1, o.keepCell h.2.2.1 h1, o.keepCell h.2.2.2.1 h1, o.keepCell h.2.2.2.2 h2⟩
theorem BoxAt.set {w : World} {ab i B : Nat} {v : Value} {qa qb qc qd xv : Int} (h : BoxAt w B qa qb qc qd xv) (hb : ab < B) : BoxAt (w.setCell ⟨ab, i, none⟩ v) B qa qb qc qd xv :=
  h.keep ((Only.refl [ab] w).setCell (by simp) _) (by simp; omega) (by simp; omega)

theorem beg_end {w wc w5 w6 : World} {ab num pick p b : Nat} {q : Q4} {x : Int × Int} {r : List (Int × Int)} {av : Value} {k : K} {o : HOp} {n cap off : Nat} (hk : newK q x = k) (A5 : w5.heap[ab]? = some (actO num av .nilIface o)) (O5 : Only [] wc w5) (M5 : w5.heap[p]? = some (machO k))
    (O : Only [ab] w wc) (V : ActsAt wc av r) (VB : ∀ b2 off n cap, av = .slice (some ⟨b2, off, none⟩) n cap → b2 = b) (c1 : w.cell? ⟨ab, 1, none⟩ = some (.slice (some ⟨b, off, none⟩) n cap)) (hne : b ≠ ab) (L5 : w.heap.size ≤ p) (L6 : p < w5.heap.size) (hab : ab < w.heap.size)
    (hw : Only [ab] w5 w6) (h6 : w6.heap[ab]? = some (actO num av (ifc k.kind p) (op0 num pick x))) : BegPost w ab num q pick x r (.returned (.tuple #[])) w6 := by
  subst hk
  refine ⟨av, p, rfl, (O.then0 O5).trans hw (by simp), h6, (V.keep0 O5).keep hw (fun b2 off n cap e _ => by have := VB b2 off n cap e; simp; omega), hw.keep M5 (by simp; omega), L5, Nat.lt_of_lt_of_le L6 hw.size, fun b2 off2 n2 cap2 e => ?_⟩
  have := VB b2 off2 n2 cap2 e
  subst this
  exact ⟨_, _, _, c1⟩

theorem beg_mid {w : World} {ab num pick b : Nat} {av0 av : Value} {o : HOp} {xk xv qa qb qc qd : Int} {r : List (Int × Int)} (h : w.heap[ab]? = some (actO num av0 .nilIface o)) (hv : ActsAt w av r) (hvb : ∀ b2 off n cap, av = .slice (some ⟨b2, off, none⟩) n cap → b2 = b) (hne : b ≠ ab)
    {wx : World} (hwx : wx = (((((((((w.setCell ⟨ab, 1, none⟩ av).setCell ⟨ab, 3, none⟩ (.int .i64 xk)).setCell ⟨ab, 4, none⟩ (.int .i64 num)).setCell ⟨ab, 5, none⟩ (.int .i64 pick)).setCell ⟨ab, 6, none⟩ (.int .i64 0)).setCell ⟨ab, 7, none⟩ (.int .i64 0)).setCell ⟨ab, 8, none⟩ (.int .i64 0)).alloc (.cells #[.int .i64 qa, .int .i64 qb, .int .i64 qc, .int .i64 qd] 50)).alloc (.cells #[.int .i64 xk, .int .i64 xv] 44)).drew) :
    ∃ av, wx.heap[ab]? = some (actO num av .nilIface ⟨xk, num, pick, 0, 0, 0⟩) ∧ Only [ab] w wx ∧ ActsAt wx av r ∧ (∀ b2 off n cap, av = .slice (some ⟨b2, off, none⟩) n cap → b2 = b) ∧
      wx.cell? ⟨w.heap.size, 0, none⟩ = some (.int .i64 qa) ∧ wx.cell? ⟨w.heap.size, 1, none⟩ = some (.int .i64 qb) ∧ wx.cell? ⟨w.heap.size, 2, none⟩ = some (.int .i64 qc) ∧ wx.cell? ⟨w.heap.size, 3, none⟩ = some (.int .i64 qd) ∧
      wx.cell? ⟨w.heap.size + 1, 0, none⟩ = some (.int .i64 xk) ∧ wx.cell? ⟨w.heap.size + 1, 1, none⟩ = some (.int .i64 xv) ∧ w.heap.size + 2 ≤ wx.heap.size := by
  obtain ⟨w1, hw1⟩ : ∃ w1, w1 = ((((((w.setCell ⟨ab, 1, none⟩ av).setCell ⟨ab, 3, none⟩ (.int .i64 xk)).setCell ⟨ab, 4, none⟩ (.int .i64 num)).setCell ⟨ab, 5, none⟩ (.int .i64 pick)).setCell ⟨ab, 6, none⟩ (.int .i64 0)).setCell ⟨ab, 7, none⟩ (.int .i64 0)).setCell ⟨ab, 8, none⟩ (.int .i64 0) := ⟨_, rfl⟩
  have o1 : Only [ab] w w1 := by
    rw [hw1]
    exact (((((((Only.refl _ _).setCell (by simp) _).setCell (by simp) _).setCell (by simp) _).setCell (by simp) _).setCell (by simp) _).setCell (by simp) _).setCell (by simp) _
  have hs : w1.heap.size = w.heap.size := by rw [hw1]; simp [World.setCell]
  have hb : w1.heap[ab]? = some (actO num av .nilIface ⟨xk, num, pick, 0, 0, 0⟩) := by
    have e := blk_setCell (blk_setCell (blk_setCell (blk_setCell (blk_setCell (blk_setCell (blk_setCell h 1 av) 3 (.int .i64 xk)) 4 (.int .i64 num)) 5 (.int .i64 pick)) 6 (.int .i64 0)) 7 (.int .i64 0)) 8 (.int .i64 0)
    rw [← hw1] at e
    simp only [List.setIfInBounds_toArray, List.set_cons_zero, List.set_cons_succ] at e
    exact e
  rw [← hw1] at hwx
  have o2 : Only [] w1 wx := by rw [hwx]; exact (((Only.refl _ _).alloc _).alloc _).drew
  have n1 : wx.heap[w.heap.size]? = some (.cells #[.int .i64 qa, .int .i64 qb, .int .i64 qc, .int .i64 qd] 50 (0, 0)) := by
    rw [hwx, heap_drew, blk_alloc_old (by simp; omega), ← hs, blk_alloc_new]
  have n2 : wx.heap[w.heap.size + 1]? = some (.cells #[.int .i64 xk, .int .i64 xv] 44 (0, 0)) := by
    have e : w.heap.size + 1 = (w1.alloc (.cells #[.int .i64 qa, .int .i64 qb, .int .i64 qc, .int .i64 qd] 50)).heap.size := by simp; omega
    rw [hwx, heap_drew, e, blk_alloc_new]
  refine ⟨av, o2.keep hb (by simp), o1.then0 o2, (hv.keep o1 (fun b2 off n cap e _ => by have := hvb b2 off n cap e; simp; omega)).keep0 o2, hvb, ?_, ?_, ?_, ?_, ?_, ?_, ?_⟩
  · rw [cell_blk n1]; rfl
  · rw [cell_blk n1]; rfl
  · rw [cell_blk n1]; rfl
  · rw [cell_blk n1]; rfl
  · rw [cell_blk n2]; rfl
  · rw [cell_blk n2]; rfl
  · have := lt_of_blk n2; omega

set_option maxRecDepth 100000 in
set_option maxHeartbeats 1000000 in
theorem begin_any (w : World) (ab num pick : Nat) (av : Value) (o : HOp) (q : Q4) (x : Int × Int) (r : List (Int × Int)) (h : w.heap[ab]? = some (actO num av .nilIface o)) (hv : ActsAt w av (x :: r)) (hab : ∀ b off n cap, av = .slice (some ⟨b, off, none⟩) n cap → b ≠ ab) :
    Calls Tryz.prog 32 #[.pointer (some ⟨ab, 0, none⟩), q.v, .int .i64 pick] w (BegPost w ab num q pick x r) := by
  obtain ⟨ao, cap, rfl, hc, h2, h3⟩ := hv
  obtain ⟨b, off, rfl, d0, d1, ht⟩ := acts_tail hc h3
  have hne := hab b off _ _ rfl
  obtain ⟨xk, xv⟩ := x
  obtain ⟨qa, qb, qc, qd⟩ := q
  simp only at d0 d1
  have hl : (((xk, xv) :: r).length : Int) = (r.length : Int) + 1 := by simp
  have c0 := cell_blk h 0
  have c1 := cell_blk h 1
  have f1 := free_blk h 1
  have f2 := free_blk h 2
  have f3 := free_blk h 3
  have f4 := free_blk h 4
  have f5 := free_blk h 5
  have f6 := free_blk h 6
  have f7 := free_blk h 7
  have f8 := free_blk h 8
  have c2 := cell_blk h 2
  have c3 := cell_blk h 3
  have c4 := cell_blk h 4
  have c5 := cell_blk h 5
  have c6 := cell_blk h 6
  have c7 := cell_blk h 7
  have c8 := cell_blk h 8
  simp at c0 c1 c2 c3 c4 c5 c6 c7 c8
  have hlt := lt_of_blk h
  obtain ⟨n, hn⟩ : ∃ n, n = r.length := ⟨_, rfl⟩
  simp only [List.length_cons] at c1 h3
  rw [← hn] at c1 h3
  have HN := Lib.hid hn
  have H := Lib.hid h
  have HT := Lib.hid ht
  clear h hc ht hab hl h2 hn
  have hbl : b < w.heap.size := lt_of_cell d0
  by_cases hcap : cap = 1
  · subst hcap
    obtain rfl : n = 0 := by omega
    go_enter Tryz.func32, Tryz.ntmps32
    simp only [Q4.v]
    go_upto_region 3 with fail
    go_cut [] (fun wx => ∃ av, wx.heap[ab]? = some (actO num av .nilIface ⟨xk, num, pick, 0, 0, 0⟩) ∧ Only [ab] w wx ∧ ActsAt wx av r ∧ (∀ b2 off n cap, av = .slice (some ⟨b2, off, none⟩) n cap → b2 = b) ∧
      wx.cell? ⟨w.heap.size, 0, none⟩ = some (.int .i64 qa) ∧ wx.cell? ⟨w.heap.size, 1, none⟩ = some (.int .i64 qb) ∧ wx.cell? ⟨w.heap.size, 2, none⟩ = some (.int .i64 qc) ∧ wx.cell? ⟨w.heap.size, 3, none⟩ = some (.int .i64 qd) ∧
      wx.cell? ⟨w.heap.size + 1, 0, none⟩ = some (.int .i64 xk) ∧ wx.cell? ⟨w.heap.size + 1, 1, none⟩ = some (.int .i64 xv) ∧ w.heap.size + 2 ≤ wx.heap.size)
    case first =>
      go_region
      all_goals
        try go_wp2_with fail
        go_meet
        refine beg_mid (b := b) (av := .slice (some ⟨b, off, none⟩) 0 0) H.out ⟨some ⟨b, off, none⟩, 0, by rw [HN.out], HT.out off (fun _ => by have := HN.out; omega), (fun e => by cases e), by have := HN.out; omega⟩ (by intro b2 o2 n2 c2 e; cases e; rfl) hne ?_
        rfl
    case rest =>
      obtain ⟨av, hA, hO, hV, hvb, q0, q1, q2, q3, x0, x1, hsz⟩ := hcut
      have A := Lib.hid hA
      have O := Lib.hid hO
      have V := Lib.hid hV
      have VB := Lib.hid hvb
      have Q0 : Hid (BoxAt wc w.heap.size qa qb qc qd xv) := Lib.hid ⟨q0, q1, q2, q3, x1⟩
      clear hA hO hV hvb
      by_cases k0 : xk = 0
      · subst k0
        go_wp2_with fail
        go_region_held3 (fun w' => w'.cell? ⟨w.heap.size, 0, none⟩ = some (.int .i64 qa) ∧ w'.cell? ⟨w.heap.size, 1, none⟩ = some (.int .i64 qb) ∧ w'.cell? ⟨w.heap.size, 2, none⟩ = some (.int .i64 qc) ∧ w'.cell? ⟨w.heap.size, 3, none⟩ = some (.int .i64 qd) ∧ w'.cell? ⟨w.heap.size + 1, 1, none⟩ = some (.int .i64 xv))
          (first | exact Q0.out | exact Q5.out | exact Q5.out.set hlt | exact (Q5.out.set hlt).set hlt)
          ((go_at_call 38; refine (push_new _ ⟨qa, qb, qc, qd⟩ xv).mono ?_; rintro e w5 ⟨p, rfl, o5, m5, l5, l6⟩
            simp only [ifc]
            have O5 := Lib.hid o5.undrew
            have Q5 := Lib.hid (Q0.out.keep O5.out (by simp) (by simp))
            have A5 := Lib.hid (O5.out.keep A.out (by simp))
            have M5 := Lib.hid m5
            have L5 : wc.heap.size ≤ p := l5
            have L6 := l6
            have e2 := cell_blk A5.out 2
            have e8 := cell_blk A5.out 8
            have g2 := free_blk A5.out 2
            have g8 := free_blk A5.out 8
            simp at e2 e8
            clear o5 m5 l5 l6))
        go_wp2_with fail
        go_end0
        refine beg_end (k := newPush ⟨qa, qb, qc, qd⟩ xv) (b := b) (by simp [newK]) A5.out O5.out M5.out O.out V.out VB.out c1 hne (by omega) L6 hlt (((Only.refl _ _).setCell (by simp) _).setCell (by simp) _) ?_
        have e := blk_setCell (blk_setCell A5.out 2 (ifc (newPush ⟨qa, qb, qc, qd⟩ xv).kind p)) 8 (.int .i64 xv)
        simp only [List.setIfInBounds_toArray, List.set_cons_zero, List.set_cons_succ] at e
        exact e
      · by_cases k1 : xk = 1
        · subst k1
          go_wp2_with fail
          refine (pop_new _ ⟨qa, qb, qc, qd⟩).mono ?_; rintro e w5 ⟨p, rfl, o5, m5, l5, l6⟩
          simp only [ifc]
          have O5 := Lib.hid o5
          have A5 := Lib.hid (O5.out.keep A.out (by simp))
          have M5 := Lib.hid m5
          have L5 : wc.heap.size ≤ p := l5
          have L6 := l6
          have e2 := cell_blk A5.out 2
          have g2 := free_blk A5.out 2
          simp at e2
          clear o5 m5 l5 l6
          go_wp2_with fail
          go_end0
          refine beg_end (k := newPop ⟨qa, qb, qc, qd⟩) (b := b) (by simp [newK]) A5.out O5.out M5.out O.out V.out VB.out c1 hne (by omega) L6 hlt ((Only.refl _ _).setCell (by simp) _) ?_
          have e := blk_setCell A5.out 2 (ifc (newPop ⟨qa, qb, qc, qd⟩).kind p)
          simp only [List.setIfInBounds_toArray, List.set_cons_zero, List.set_cons_succ] at e
          have eo : op0 num pick (1, xv) = ⟨1, num, pick, 0, 0, 0⟩ := by simp [op0]
          rw [eo]
          exact e
        · go_wp2_with fail
          refine (steal_new _ ⟨qa, qb, qc, qd⟩).mono ?_; rintro e w5 ⟨p, rfl, o5, m5, l5, l6⟩
          simp only [ifc]
          have O5 := Lib.hid o5
          have A5 := Lib.hid (O5.out.keep A.out (by simp))
          have M5 := Lib.hid m5
          have L5 : wc.heap.size ≤ p := l5
          have L6 := l6
          have e2 := cell_blk A5.out 2
          have g2 := free_blk A5.out 2
          simp at e2
          clear o5 m5 l5 l6
          go_wp2_with fail
          go_end0
          refine beg_end (k := newSteal ⟨qa, qb, qc, qd⟩) (b := b) (by simp [newK, k0, k1]) A5.out O5.out M5.out O.out V.out VB.out c1 hne (by omega) L6 hlt ((Only.refl _ _).setCell (by simp) _) ?_
          have e := blk_setCell A5.out 2 (ifc (newSteal ⟨qa, qb, qc, qd⟩).kind p)
          simp only [List.setIfInBounds_toArray, List.set_cons_zero, List.set_cons_succ] at e
          have eo : op0 num pick (xk, xv) = ⟨xk, num, pick, 0, 0, 0⟩ := by simp [op0, k0]
          rw [eo]
          exact e
  · have _hc := hcap
    go_enter Tryz.func32, Tryz.ntmps32
    simp only [Q4.v]
    go_upto_region 3 with fail
    go_cut [] (fun wx => ∃ av, wx.heap[ab]? = some (actO num av .nilIface ⟨xk, num, pick, 0, 0, 0⟩) ∧ Only [ab] w wx ∧ ActsAt wx av r ∧ (∀ b2 off n cap, av = .slice (some ⟨b2, off, none⟩) n cap → b2 = b) ∧
      wx.cell? ⟨w.heap.size, 0, none⟩ = some (.int .i64 qa) ∧ wx.cell? ⟨w.heap.size, 1, none⟩ = some (.int .i64 qb) ∧ wx.cell? ⟨w.heap.size, 2, none⟩ = some (.int .i64 qc) ∧ wx.cell? ⟨w.heap.size, 3, none⟩ = some (.int .i64 qd) ∧
      wx.cell? ⟨w.heap.size + 1, 0, none⟩ = some (.int .i64 xk) ∧ wx.cell? ⟨w.heap.size + 1, 1, none⟩ = some (.int .i64 xv) ∧ w.heap.size + 2 ≤ wx.heap.size)
    case first =>
      go_region
      all_goals
        try go_wp2_with fail
        go_meet
        refine beg_mid (b := b) (av := .slice (some ⟨b, off + 2, none⟩) n (cap - 1)) H.out ⟨some ⟨b, off + 2, none⟩, cap - 1, by rw [HN.out], HT.out (off + 2) (fun _ => rfl), (fun e => by cases e), by have := HN.out; omega⟩ (by intro b2 o2 n2 c2 e; cases e; rfl) hne ?_
        rfl
    case rest =>
      obtain ⟨av, hA, hO, hV, hvb, q0, q1, q2, q3, x0, x1, hsz⟩ := hcut
      have A := Lib.hid hA
      have O := Lib.hid hO
      have V := Lib.hid hV
      have VB := Lib.hid hvb
      have Q0 : Hid (BoxAt wc w.heap.size qa qb qc qd xv) := Lib.hid ⟨q0, q1, q2, q3, x1⟩
      clear hA hO hV hvb
      by_cases k0 : xk = 0
      · subst k0
        go_wp2_with fail
        go_region_held3 (fun w' => w'.cell? ⟨w.heap.size, 0, none⟩ = some (.int .i64 qa) ∧ w'.cell? ⟨w.heap.size, 1, none⟩ = some (.int .i64 qb) ∧ w'.cell? ⟨w.heap.size, 2, none⟩ = some (.int .i64 qc) ∧ w'.cell? ⟨w.heap.size, 3, none⟩ = some (.int .i64 qd) ∧ w'.cell? ⟨w.heap.size + 1, 1, none⟩ = some (.int .i64 xv))
          (first | exact Q0.out | exact Q5.out | exact Q5.out.set hlt | exact (Q5.out.set hlt).set hlt)
          ((go_at_call 38; refine (push_new _ ⟨qa, qb, qc, qd⟩ xv).mono ?_; rintro e w5 ⟨p, rfl, o5, m5, l5, l6⟩
            simp only [ifc]
            have O5 := Lib.hid o5.undrew
            have Q5 := Lib.hid (Q0.out.keep O5.out (by simp) (by simp))
            have A5 := Lib.hid (O5.out.keep A.out (by simp))
            have M5 := Lib.hid m5
            have L5 : wc.heap.size ≤ p := l5
            have L6 := l6
            have e2 := cell_blk A5.out 2
            have e8 := cell_blk A5.out 8
            have g2 := free_blk A5.out 2
            have g8 := free_blk A5.out 8
            simp at e2 e8
            clear o5 m5 l5 l6))
        go_wp2_with fail
        go_end0
        refine beg_end (k := newPush ⟨qa, qb, qc, qd⟩ xv) (b := b) (by simp [newK]) A5.out O5.out M5.out O.out V.out VB.out c1 hne (by omega) L6 hlt (((Only.refl _ _).setCell (by simp) _).setCell (by simp) _) ?_
        have e := blk_setCell (blk_setCell A5.out 2 (ifc (newPush ⟨qa, qb, qc, qd⟩ xv).kind p)) 8 (.int .i64 xv)
        simp only [List.setIfInBounds_toArray, List.set_cons_zero, List.set_cons_succ] at e
        exact e
      · by_cases k1 : xk = 1
        · subst k1
          go_wp2_with fail
          refine (pop_new _ ⟨qa, qb, qc, qd⟩).mono ?_; rintro e w5 ⟨p, rfl, o5, m5, l5, l6⟩
          simp only [ifc]
          have O5 := Lib.hid o5
          have A5 := Lib.hid (O5.out.keep A.out (by simp))
          have M5 := Lib.hid m5
          have L5 : wc.heap.size ≤ p := l5
          have L6 := l6
          have e2 := cell_blk A5.out 2
          have g2 := free_blk A5.out 2
          simp at e2
          clear o5 m5 l5 l6
          go_wp2_with fail
          go_end0
          refine beg_end (k := newPop ⟨qa, qb, qc, qd⟩) (b := b) (by simp [newK]) A5.out O5.out M5.out O.out V.out VB.out c1 hne (by omega) L6 hlt ((Only.refl _ _).setCell (by simp) _) ?_
          have e := blk_setCell A5.out 2 (ifc (newPop ⟨qa, qb, qc, qd⟩).kind p)
          simp only [List.setIfInBounds_toArray, List.set_cons_zero, List.set_cons_succ] at e
          have eo : op0 num pick (1, xv) = ⟨1, num, pick, 0, 0, 0⟩ := by simp [op0]
          rw [eo]
          exact e
        · go_wp2_with fail
          refine (steal_new _ ⟨qa, qb, qc, qd⟩).mono ?_; rintro e w5 ⟨p, rfl, o5, m5, l5, l6⟩
          simp only [ifc]
          have O5 := Lib.hid o5
          have A5 := Lib.hid (O5.out.keep A.out (by simp))
          have M5 := Lib.hid m5
          have L5 : wc.heap.size ≤ p := l5
          have L6 := l6
          have e2 := cell_blk A5.out 2
          have g2 := free_blk A5.out 2
          simp at e2
          clear o5 m5 l5 l6
          go_wp2_with fail
          go_end0
          refine beg_end (k := newSteal ⟨qa, qb, qc, qd⟩) (b := b) (by simp [newK, k0, k1]) A5.out O5.out M5.out O.out V.out VB.out c1 hne (by omega) L6 hlt ((Only.refl _ _).setCell (by simp) _) ?_
          have e := blk_setCell A5.out 2 (ifc (newSteal ⟨qa, qb, qc, qd⟩).kind p)
          simp only [List.setIfInBounds_toArray, List.set_cons_zero, List.set_cons_succ] at e
          have eo : op0 num pick (xk, xv) = ⟨xk, num, pick, 0, 0, 0⟩ := by simp [op0, k0]
          rw [eo]
          exact e
end Go.Proofs.YtfhkhknnoepfeaaGreat
