/- What the reference's memory computes, wherever it lies in a block. -/
import Derived.Test.YtfhkhknnoepfeaaGreatDqMeth
import Derived.Deep.RegionHeld3
namespace Go.Proofs.YtfhkhknnoepfeaaGreat
open Go.RowKit

/-- The reference's memory s lies in block b behind the values pre, its cells in block bc; behind it post. -/
def RMemAt (w : World) (T : TypeId) (b : Nat) (pre post : List Value) (bc : Nat) (s : MS) : Prop :=
  ∃ v, w.heap[b]? = some (.cells (pre ++ ([v, .int .i64 s.kind, .int .i64 s.cell, .int .u64 s.old, .int .u64 s.new, .int .i64 s.count] ++ post)).toArray T (0, 0)) ∧ RowAt w v bc 105 (s.cells.map (.int .u64)) ∧ bc ≠ b ∧ 0 ≤ s.count

theorem get_mid {pre mid post : List Value} {o : Nat} (ho : pre.length = o) (i : Nat) (hi : i < mid.length) : (pre ++ (mid ++ post)).toArray[o + i]? = some mid[i] := by
  subst ho
  rw [List.getElem?_toArray, List.getElem?_append_right (by omega), Nat.add_sub_cancel_left, List.getElem?_append_left hi, List.getElem?_eq_getElem hi]

theorem set_mid {pre mid post : List Value} {o : Nat} (ho : pre.length = o) (i : Nat) (hi : i < mid.length) (x : Value) : (pre ++ (mid ++ post)).toArray.setIfInBounds (o + i) x = (pre ++ (mid.set i x ++ post)).toArray := by
  subst ho
  simp only [List.setIfInBounds_toArray]
  rw [List.set_append_right _ _ (by omega), Nat.add_sub_cancel_left, List.set_append_left _ _ hi]

theorem RMemAt.keep {S : List Nat} {w w' : World} {T : TypeId} {b bc : Nat} {pre post : List Value} {s : MS} (h : RMemAt w T b pre post bc s) (ho : Only S w w') (h1 : b ∉ S) (h2 : bc ∉ S) : RMemAt w' T b pre post bc s := by
  obtain ⟨v, a, r, c, d⟩ := h
  exact ⟨v, ho.keep a h1, r.keep ho h2, c, d⟩

theorem refIn_in (w : World) (T : TypeId) (b o bc : Nat) (pre post : List Value) (s : MS) (c : Int) (h : RMemAt w T b pre post bc s) (ho : pre.length = o) (hc0 : 0 ≤ c) (hc1 : c < s.cells.length) :
    Calls Tryz.prog 113 #[.pointer (some ⟨b, o, none⟩), .int .i64 c] w fun e w' => e = .returned (.bool true) ∧ w = w' := by
  obtain ⟨v, h1, ⟨a, cap, rfl, _, _, _⟩, _, _⟩ := h
  have c0 := cell_blk h1 (o + 0)
  rw [get_mid ho 0 (by simp)] at c0
  simp only [Nat.add_zero, List.getElem_cons_zero, List.length_map] at c0
  clear h1
  go_enter Tryz.func113, Tryz.ntmps113
  go_wp2
  go_ret
  exact ⟨rfl, rfl⟩

theorem refIn_out (w : World) (T : TypeId) (b o bc : Nat) (pre post : List Value) (s : MS) (c : Int) (h : RMemAt w T b pre post bc s) (ho : pre.length = o) (hc : c < 0 ∨ s.cells.length ≤ c) :
    Calls Tryz.prog 113 #[.pointer (some ⟨b, o, none⟩), .int .i64 c] w fun e w' => e = .returned (.bool false) ∧ w = w' := by
  obtain ⟨v, h1, ⟨a, cap, rfl, _, _, _⟩, _, _⟩ := h
  have c0 := cell_blk h1 (o + 0)
  rw [get_mid ho 0 (by simp)] at c0
  simp only [Nat.add_zero, List.getElem_cons_zero, List.length_map] at c0
  clear h1
  go_enter Tryz.func113, Tryz.ntmps113
  by_cases hn : c < 0
  · go_wp2
    go_ret
    exact ⟨rfl, rfl⟩
  · have h0 : 0 ≤ c := by omega
    have hge : (s.cells.length : Int) ≤ c := by omega
    have hd : decide (c < (s.cells.length : Int)) = false := by simpa using hge
    go_wp2
    go_ret
    exact ⟨rfl, rfl⟩

/-- The world behind the stores of an access. -/
def accW (w : World) (b o bc k : Nat) (kind x y n : Int) : World :=
  (((((w.setCell ⟨bc, k, none⟩ (.int .u64 y)).setCell ⟨b, o + 1, none⟩ (.int .i64 kind)).setCell ⟨b, o + 2, none⟩ (.int .i64 k)).setCell ⟨b, o + 3, none⟩ (.int .u64 x)).setCell ⟨b, o + 4, none⟩ (.int .u64 y)).setCell ⟨b, o + 5, none⟩ (.int .i64 n)

theorem accW_only (w : World) (b o bc k : Nat) (kind x y n : Int) : Only [b, bc] w (accW w b o bc k kind x y n) :=
  ((((((Only.refl _ _).setCell (by simp) _).setCell (by simp) _).setCell (by simp) _).setCell (by simp) _).setCell (by simp) _).setCell (by simp) _

theorem rmemAt_acc {w : World} {T : TypeId} {b o bc : Nat} {pre post : List Value} {s : MS} {v : Value} {kind x y : Int} {k : Nat}
    (h1 : w.heap[b]? = some (.cells (pre ++ ([v, .int .i64 s.kind, .int .i64 s.cell, .int .u64 s.old, .int .u64 s.new, .int .i64 s.count] ++ post)).toArray T (0, 0))) (ho : pre.length = o)
    (hrow : ∀ (j : Nat) (x : Value) (w' : World), j < (s.cells.map (Value.int .u64)).length → w'.heap[bc]? = (w.setCell ⟨bc, j, none⟩ x).heap[bc]? → RowAt w' v bc 105 ((s.cells.map (Value.int .u64)).set j x))
    (hne : b ≠ bc) (hk : k < (s.cells.map (Value.int .u64)).length) (hx : s.cells.getD k 0 = x) (h0 : 0 ≤ s.count) :
    RMemAt (accW w b o bc k kind x y (s.count + 1)) T b pre post bc (s.acc kind k y) := by
  unfold accW
  have e0 : (w.setCell ⟨bc, k, none⟩ (.int .u64 y)).heap[b]? = some (.cells (pre ++ ([v, .int .i64 s.kind, .int .i64 s.cell, .int .u64 s.old, .int .u64 s.new, .int .i64 s.count] ++ post)).toArray T (0, 0)) := by rw [blk_setCell_ne hne]; exact h1
  have e1 := blk_setCell e0 (o + 1) (.int .i64 kind)
  rw [set_mid ho 1 (by simp)] at e1
  have e2 := blk_setCell e1 (o + 2) (.int .i64 k)
  rw [set_mid ho 2 (by simp)] at e2
  have e3 := blk_setCell e2 (o + 3) (.int .u64 x)
  rw [set_mid ho 3 (by simp)] at e3
  have e4 := blk_setCell e3 (o + 4) (.int .u64 y)
  rw [set_mid ho 4 (by simp)] at e4
  have e5 := blk_setCell e4 (o + 5) (.int .i64 (s.count + 1))
  rw [set_mid ho 5 (by simp)] at e5
  simp only [List.set_cons_succ, List.set_cons_zero] at e5
  refine ⟨v, ?_, ?_, fun e => hne e.symm, by simp only [MS.acc]; omega⟩
  · simp only [MS.acc, hx]
    exact e5
  · have h5 : ∀ (w : World) (i : Nat) (x : Value), (w.setCell ⟨b, i, none⟩ x).heap[bc]? = w.heap[bc]? := fun w i x => blk_setCell_ne (p := ⟨b, i, none⟩) (fun e => hne e.symm) x
    have := hrow k (.int .u64 y) _ hk ((h5 _ (o + 5) (.int .i64 (s.count + 1))).trans ((h5 _ (o + 4) (.int .u64 y)).trans ((h5 _ (o + 3) (.int .u64 x)).trans ((h5 _ (o + 2) (.int .i64 k)).trans (h5 _ (o + 1) (.int .i64 kind))))))
    rw [← List.map_set] at this
    exact this

set_option maxHeartbeats 800000 in
theorem refAcc1_in (w : World) (T : TypeId) (b o bc : Nat) (pre post : List Value) (s : MS) (c : Int) (k : Nat) (hck : c = (k : Int)) (x v u : Int) (h : RMemAt w T b pre post bc s) (ho : pre.length = o) (hk : k < s.cells.length) (hx : s.cells[k] = x) (hcount : s.count ≤ 4000000000000000000) :
    Calls Tryz.prog 86 #[.pointer (some ⟨b, o, none⟩), .int .i64 1, .int .i64 c, .int .u64 v, .int .u64 u] w fun e w' => e = .returned (.tuple #[.int .u64 x, .bool true]) ∧ Only [b, bc] w w' ∧ RMemAt w' T b pre post bc (s.acc 1 k (x)) := by
  subst hck
  have hin := Lib.hid (refIn_in w T b o bc pre post s k h ho (by omega) (by omega))
  obtain ⟨v0, h1, h2, h6, h7⟩ := h
  obtain ⟨cap, rfl, hcap, hcapm, hcell, hfree, hrow⟩ := h2.at (by simp; omega)
  have hkc := hcell k (by simpa using hk)
  have hkf := hfree k
  simp only [List.getElem_map, hx] at hkc
  simp only [List.length_map] at hcap
  have c0 := cell_blk h1 (o + 0)
  have c1 := cell_blk h1 (o + 1)
  have c2 := cell_blk h1 (o + 2)
  have c3 := cell_blk h1 (o + 3)
  have c4 := cell_blk h1 (o + 4)
  have c5 := cell_blk h1 (o + 5)
  rw [get_mid ho 0 (by simp)] at c0
  rw [get_mid ho 1 (by simp)] at c1
  rw [get_mid ho 2 (by simp)] at c2
  rw [get_mid ho 3 (by simp)] at c3
  rw [get_mid ho 4 (by simp)] at c4
  rw [get_mid ho 5 (by simp)] at c5
  simp at c0 c1 c2 c3 c4 c5
  have f1 := free_blk h1 (o + 1)
  have f2 := free_blk h1 (o + 2)
  have f3 := free_blk h1 (o + 3)
  have f4 := free_blk h1 (o + 4)
  have f5 := free_blk h1 (o + 5)
  have H1 := Lib.hid h1
  have HX := Lib.hid hx
  have HR := Lib.hid hrow
  have HO := Lib.hid ho
  have hlen : s.cells.length ≤ 9223372036854775807 := by omega
  have hne : b ≠ bc := fun e => h6 e.symm
  clear h1 h2 hrow hcell hfree hx ho
  go_enter Tryz.func86, Tryz.ntmps86
  go_wp2_with fail
  refine hin.out.mono ?_
  rintro e w1 ⟨rfl, rfl⟩
  go_wp2_with fail
  go_ret2
  exact ⟨rfl, accW_only w b o bc k 1 x (x) (s.count + 1), rmemAt_acc H1.out HO.out HR.out hne (by simpa using hk) (by simp [List.getD, hk, HX.out]) h7⟩

set_option maxHeartbeats 800000 in
theorem refAcc2_in (w : World) (T : TypeId) (b o bc : Nat) (pre post : List Value) (s : MS) (c : Int) (k : Nat) (hck : c = (k : Int)) (x v u : Int) (h : RMemAt w T b pre post bc s) (ho : pre.length = o) (hk : k < s.cells.length) (hx : s.cells[k] = x) (hcount : s.count ≤ 4000000000000000000) :
    Calls Tryz.prog 86 #[.pointer (some ⟨b, o, none⟩), .int .i64 2, .int .i64 c, .int .u64 v, .int .u64 u] w fun e w' => e = .returned (.tuple #[.int .u64 x, .bool true]) ∧ Only [b, bc] w w' ∧ RMemAt w' T b pre post bc (s.acc 2 k (v)) := by
  subst hck
  have hin := Lib.hid (refIn_in w T b o bc pre post s k h ho (by omega) (by omega))
  obtain ⟨v0, h1, h2, h6, h7⟩ := h
  obtain ⟨cap, rfl, hcap, hcapm, hcell, hfree, hrow⟩ := h2.at (by simp; omega)
  have hkc := hcell k (by simpa using hk)
  have hkf := hfree k
  simp only [List.getElem_map, hx] at hkc
  simp only [List.length_map] at hcap
  have c0 := cell_blk h1 (o + 0)
  have c1 := cell_blk h1 (o + 1)
  have c2 := cell_blk h1 (o + 2)
  have c3 := cell_blk h1 (o + 3)
  have c4 := cell_blk h1 (o + 4)
  have c5 := cell_blk h1 (o + 5)
  rw [get_mid ho 0 (by simp)] at c0
  rw [get_mid ho 1 (by simp)] at c1
  rw [get_mid ho 2 (by simp)] at c2
  rw [get_mid ho 3 (by simp)] at c3
  rw [get_mid ho 4 (by simp)] at c4
  rw [get_mid ho 5 (by simp)] at c5
  simp at c0 c1 c2 c3 c4 c5
  have f1 := free_blk h1 (o + 1)
  have f2 := free_blk h1 (o + 2)
  have f3 := free_blk h1 (o + 3)
  have f4 := free_blk h1 (o + 4)
  have f5 := free_blk h1 (o + 5)
  have H1 := Lib.hid h1
  have HX := Lib.hid hx
  have HR := Lib.hid hrow
  have HO := Lib.hid ho
  have hlen : s.cells.length ≤ 9223372036854775807 := by omega
  have hne : b ≠ bc := fun e => h6 e.symm
  clear h1 h2 hrow hcell hfree hx ho
  go_enter Tryz.func86, Tryz.ntmps86
  go_wp2_with fail
  refine hin.out.mono ?_
  rintro e w1 ⟨rfl, rfl⟩
  go_wp2_with fail
  go_ret2
  exact ⟨rfl, accW_only w b o bc k 2 x (v) (s.count + 1), rmemAt_acc H1.out HO.out HR.out hne (by simpa using hk) (by simp [List.getD, hk, HX.out]) h7⟩

set_option maxHeartbeats 800000 in
theorem refAcc4_in (w : World) (T : TypeId) (b o bc : Nat) (pre post : List Value) (s : MS) (c : Int) (k : Nat) (hck : c = (k : Int)) (x v u : Int) (h : RMemAt w T b pre post bc s) (ho : pre.length = o) (hk : k < s.cells.length) (hx : s.cells[k] = x) (hcount : s.count ≤ 4000000000000000000) :
    Calls Tryz.prog 86 #[.pointer (some ⟨b, o, none⟩), .int .i64 4, .int .i64 c, .int .u64 v, .int .u64 u] w fun e w' => e = .returned (.tuple #[.int .u64 x, .bool true]) ∧ Only [b, bc] w w' ∧ RMemAt w' T b pre post bc (s.acc 4 k (orB x v)) := by
  subst hck
  have hin := Lib.hid (refIn_in w T b o bc pre post s k h ho (by omega) (by omega))
  obtain ⟨v0, h1, h2, h6, h7⟩ := h
  obtain ⟨cap, rfl, hcap, hcapm, hcell, hfree, hrow⟩ := h2.at (by simp; omega)
  have hkc := hcell k (by simpa using hk)
  have hkf := hfree k
  simp only [List.getElem_map, hx] at hkc
  simp only [List.length_map] at hcap
  have c0 := cell_blk h1 (o + 0)
  have c1 := cell_blk h1 (o + 1)
  have c2 := cell_blk h1 (o + 2)
  have c3 := cell_blk h1 (o + 3)
  have c4 := cell_blk h1 (o + 4)
  have c5 := cell_blk h1 (o + 5)
  rw [get_mid ho 0 (by simp)] at c0
  rw [get_mid ho 1 (by simp)] at c1
  rw [get_mid ho 2 (by simp)] at c2
  rw [get_mid ho 3 (by simp)] at c3
  rw [get_mid ho 4 (by simp)] at c4
  rw [get_mid ho 5 (by simp)] at c5
  simp at c0 c1 c2 c3 c4 c5
  have f1 := free_blk h1 (o + 1)
  have f2 := free_blk h1 (o + 2)
  have f3 := free_blk h1 (o + 3)
  have f4 := free_blk h1 (o + 4)
  have f5 := free_blk h1 (o + 5)
  have H1 := Lib.hid h1
  have HX := Lib.hid hx
  have HR := Lib.hid hrow
  have HO := Lib.hid ho
  have hlen : s.cells.length ≤ 9223372036854775807 := by omega
  have hne : b ≠ bc := fun e => h6 e.symm
  clear h1 h2 hrow hcell hfree hx ho
  go_enter Tryz.func86, Tryz.ntmps86
  go_wp2_with fail
  refine hin.out.mono ?_
  rintro e w1 ⟨rfl, rfl⟩
  go_wp2_with fail
  go_ret2
  exact ⟨rfl, accW_only w b o bc k 4 x (orB x v) (s.count + 1), rmemAt_acc H1.out HO.out HR.out hne (by simpa using hk) (by simp [List.getD, hk, HX.out]) h7⟩

set_option maxHeartbeats 800000 in
theorem refAcc5_in (w : World) (T : TypeId) (b o bc : Nat) (pre post : List Value) (s : MS) (c : Int) (k : Nat) (hck : c = (k : Int)) (x v u : Int) (h : RMemAt w T b pre post bc s) (ho : pre.length = o) (hk : k < s.cells.length) (hx : s.cells[k] = x) (hcount : s.count ≤ 4000000000000000000) :
    Calls Tryz.prog 86 #[.pointer (some ⟨b, o, none⟩), .int .i64 5, .int .i64 c, .int .u64 v, .int .u64 u] w fun e w' => e = .returned (.tuple #[.int .u64 x, .bool true]) ∧ Only [b, bc] w w' ∧ RMemAt w' T b pre post bc (s.acc 5 k (andB x v)) := by
  subst hck
  have hin := Lib.hid (refIn_in w T b o bc pre post s k h ho (by omega) (by omega))
  obtain ⟨v0, h1, h2, h6, h7⟩ := h
  obtain ⟨cap, rfl, hcap, hcapm, hcell, hfree, hrow⟩ := h2.at (by simp; omega)
  have hkc := hcell k (by simpa using hk)
  have hkf := hfree k
  simp only [List.getElem_map, hx] at hkc
  simp only [List.length_map] at hcap
  have c0 := cell_blk h1 (o + 0)
  have c1 := cell_blk h1 (o + 1)
  have c2 := cell_blk h1 (o + 2)
  have c3 := cell_blk h1 (o + 3)
  have c4 := cell_blk h1 (o + 4)
  have c5 := cell_blk h1 (o + 5)
  rw [get_mid ho 0 (by simp)] at c0
  rw [get_mid ho 1 (by simp)] at c1
  rw [get_mid ho 2 (by simp)] at c2
  rw [get_mid ho 3 (by simp)] at c3
  rw [get_mid ho 4 (by simp)] at c4
  rw [get_mid ho 5 (by simp)] at c5
  simp at c0 c1 c2 c3 c4 c5
  have f1 := free_blk h1 (o + 1)
  have f2 := free_blk h1 (o + 2)
  have f3 := free_blk h1 (o + 3)
  have f4 := free_blk h1 (o + 4)
  have f5 := free_blk h1 (o + 5)
  have H1 := Lib.hid h1
  have HX := Lib.hid hx
  have HR := Lib.hid hrow
  have HO := Lib.hid ho
  have hlen : s.cells.length ≤ 9223372036854775807 := by omega
  have hne : b ≠ bc := fun e => h6 e.symm
  clear h1 h2 hrow hcell hfree hx ho
  go_enter Tryz.func86, Tryz.ntmps86
  go_wp2_with fail
  refine hin.out.mono ?_
  rintro e w1 ⟨rfl, rfl⟩
  go_wp2_with fail
  go_ret2
  exact ⟨rfl, accW_only w b o bc k 5 x (andB x v) (s.count + 1), rmemAt_acc H1.out HO.out HR.out hne (by simpa using hk) (by simp [List.getD, hk, HX.out]) h7⟩

set_option maxHeartbeats 800000 in
theorem refAcc6_in (w : World) (T : TypeId) (b o bc : Nat) (pre post : List Value) (s : MS) (c : Int) (k : Nat) (hck : c = (k : Int)) (x v u : Int) (h : RMemAt w T b pre post bc s) (ho : pre.length = o) (hk : k < s.cells.length) (hx : s.cells[k] = x) (hcount : s.count ≤ 4000000000000000000) :
    Calls Tryz.prog 86 #[.pointer (some ⟨b, o, none⟩), .int .i64 6, .int .i64 c, .int .u64 v, .int .u64 u] w fun e w' => e = .returned (.tuple #[.int .u64 x, .bool true]) ∧ Only [b, bc] w w' ∧ RMemAt w' T b pre post bc (s.acc 6 k (addB x v)) := by
  subst hck
  have hin := Lib.hid (refIn_in w T b o bc pre post s k h ho (by omega) (by omega))
  obtain ⟨v0, h1, h2, h6, h7⟩ := h
  obtain ⟨cap, rfl, hcap, hcapm, hcell, hfree, hrow⟩ := h2.at (by simp; omega)
  have hkc := hcell k (by simpa using hk)
  have hkf := hfree k
  simp only [List.getElem_map, hx] at hkc
  simp only [List.length_map] at hcap
  have c0 := cell_blk h1 (o + 0)
  have c1 := cell_blk h1 (o + 1)
  have c2 := cell_blk h1 (o + 2)
  have c3 := cell_blk h1 (o + 3)
  have c4 := cell_blk h1 (o + 4)
  have c5 := cell_blk h1 (o + 5)
  rw [get_mid ho 0 (by simp)] at c0
  rw [get_mid ho 1 (by simp)] at c1
  rw [get_mid ho 2 (by simp)] at c2
  rw [get_mid ho 3 (by simp)] at c3
  rw [get_mid ho 4 (by simp)] at c4
  rw [get_mid ho 5 (by simp)] at c5
  simp at c0 c1 c2 c3 c4 c5
  have f1 := free_blk h1 (o + 1)
  have f2 := free_blk h1 (o + 2)
  have f3 := free_blk h1 (o + 3)
  have f4 := free_blk h1 (o + 4)
  have f5 := free_blk h1 (o + 5)
  have H1 := Lib.hid h1
  have HX := Lib.hid hx
  have HR := Lib.hid hrow
  have HO := Lib.hid ho
  have hlen : s.cells.length ≤ 9223372036854775807 := by omega
  have hne : b ≠ bc := fun e => h6 e.symm
  clear h1 h2 hrow hcell hfree hx ho
  go_enter Tryz.func86, Tryz.ntmps86
  go_wp2_with fail
  refine hin.out.mono ?_
  rintro e w1 ⟨rfl, rfl⟩
  go_wp2_with fail
  go_ret2
  exact ⟨rfl, accW_only w b o bc k 6 x (addB x v) (s.count + 1), rmemAt_acc H1.out HO.out HR.out hne (by simpa using hk) (by simp [List.getD, hk, HX.out]) h7⟩

set_option maxHeartbeats 800000 in
theorem refAcc3_in (w : World) (T : TypeId) (b o bc : Nat) (pre post : List Value) (s : MS) (c : Int) (k : Nat) (hck : c = (k : Int)) (x v u : Int) (h : RMemAt w T b pre post bc s) (ho : pre.length = o) (hk : k < s.cells.length) (hx : s.cells[k] = x) (hcount : s.count ≤ 4000000000000000000) :
    Calls Tryz.prog 86 #[.pointer (some ⟨b, o, none⟩), .int .i64 3, .int .i64 c, .int .u64 v, .int .u64 u] w fun e w' => e = .returned (.tuple #[.int .u64 x, .bool (x == v)]) ∧ Only [b, bc] w w' ∧ RMemAt w' T b pre post bc (s.acc 3 k (casB x v u)) := by
  subst hck
  have hin := Lib.hid (refIn_in w T b o bc pre post s k h ho (by omega) (by omega))
  obtain ⟨v0, h1, h2, h6, h7⟩ := h
  obtain ⟨cap, rfl, hcap, hcapm, hcell, hfree, hrow⟩ := h2.at (by simp; omega)
  have hkc := hcell k (by simpa using hk)
  have hkf := hfree k
  simp only [List.getElem_map, hx] at hkc
  simp only [List.length_map] at hcap
  have c0 := cell_blk h1 (o + 0)
  have c1 := cell_blk h1 (o + 1)
  have c2 := cell_blk h1 (o + 2)
  have c3 := cell_blk h1 (o + 3)
  have c4 := cell_blk h1 (o + 4)
  have c5 := cell_blk h1 (o + 5)
  rw [get_mid ho 0 (by simp)] at c0
  rw [get_mid ho 1 (by simp)] at c1
  rw [get_mid ho 2 (by simp)] at c2
  rw [get_mid ho 3 (by simp)] at c3
  rw [get_mid ho 4 (by simp)] at c4
  rw [get_mid ho 5 (by simp)] at c5
  simp at c0 c1 c2 c3 c4 c5
  have f1 := free_blk h1 (o + 1)
  have f2 := free_blk h1 (o + 2)
  have f3 := free_blk h1 (o + 3)
  have f4 := free_blk h1 (o + 4)
  have f5 := free_blk h1 (o + 5)
  have H1 := Lib.hid h1
  have HX := Lib.hid hx
  have HR := Lib.hid hrow
  have HO := Lib.hid ho
  have hlen : s.cells.length ≤ 9223372036854775807 := by omega
  have hne : b ≠ bc := fun e => h6 e.symm
  clear h1 h2 hrow hcell hfree hx ho
  by_cases hxv : x = v
  · have h5 : (x == v) = true := by simpa using hxv
    have hcas : casB x v u = u := if_pos hxv
    rw [hcas, h5]
    clear hcas hxv
    go_enter Tryz.func86, Tryz.ntmps86
    go_wp2_with fail
    refine hin.out.mono ?_
    rintro e w1 ⟨rfl, rfl⟩
    go_wp2_with fail
    go_ret2
    exact ⟨rfl, accW_only w b o bc k 3 x u (s.count + 1), rmemAt_acc H1.out HO.out HR.out hne (by simpa using hk) (by simp [List.getD, hk, HX.out]) h7⟩
  · have h5 : (x == v) = false := by simpa using hxv
    have hcas : casB x v u = x := if_neg hxv
    rw [hcas, h5]
    clear hcas hxv
    go_enter Tryz.func86, Tryz.ntmps86
    go_wp2_with fail
    refine hin.out.mono ?_
    rintro e w1 ⟨rfl, rfl⟩
    go_wp2_with fail
    go_ret2
    exact ⟨rfl, accW_only w b o bc k 3 x x (s.count + 1), rmemAt_acc H1.out HO.out HR.out hne (by simpa using hk) (by simp [List.getD, hk, HX.out]) h7⟩

theorem refAcc_out (w : World) (T : TypeId) (b o bc : Nat) (pre post : List Value) (s : MS) (K c v u : Int) (h : RMemAt w T b pre post bc s) (ho : pre.length = o) (hc : c < 0 ∨ s.cells.length ≤ c) :
    Calls Tryz.prog 86 #[.pointer (some ⟨b, o, none⟩), .int .i64 K, .int .i64 c, .int .u64 v, .int .u64 u] w fun e w' => e = .returned (.tuple #[.int .u64 0, .bool false]) ∧ w = w' := by
  have hin := Lib.hid (refIn_out w T b o bc pre post s c h ho hc)
  clear h hc
  go_enter Tryz.func86, Tryz.ntmps86
  go_wp2_with fail
  refine hin.out.mono ?_
  rintro e w1 ⟨rfl, rfl⟩
  go_wp2_with fail
  go_ret2
  exact ⟨rfl, rfl⟩

end Go.Proofs.YtfhkhknnoepfeaaGreat
