/- Plain laws about worlds that all texts of this seat use: which blocks a call may have changed, and what a block holds. No condition. -/
import Derived.WalkKit
import Derived.ProofKit
import Derived.Deep.Draws
import Derived.Lib.Hide
namespace Go.Proofs.YtncnepmgmphanaaDoor
open Go.RowKit
open Go.WideShapes (add_plain)

/-- w' is w, but that the old blocks of S may have changed; new blocks may have come. -/
structure Only (S : List Nat) (w w' : World) : Prop where
  os : w'.os = w.os
  tape : w'.tape = w.tape
  output : w'.output = w.output
  size : w.heap.size ≤ w'.heap.size
  block : ∀ k, k < w.heap.size → k ∉ S → w'.heap[k]? = w.heap[k]?

theorem Only.refl (S : List Nat) (w : World) : Only S w w := ⟨rfl, rfl, rfl, Nat.le_refl _, fun _ _ _ => rfl⟩

theorem Only.trans {S T : List Nat} {a b c : World} (h : Only S a b) (k : Only T b c) (hs : ∀ t ∈ T, t ∈ S ∨ a.heap.size ≤ t) : Only S a c :=
  ⟨k.os.trans h.os, k.tape.trans h.tape, k.output.trans h.output, Nat.le_trans h.size k.size, fun i hi hn => by
    rw [k.block i (Nat.lt_of_lt_of_le hi h.size) (fun ht => by rcases hs i ht with h1 | h1; exact hn h1; omega), h.block i hi hn]⟩

theorem Only.then0 {S : List Nat} {a b c : World} (h : Only S a b) (k : Only [] b c) : Only S a c := h.trans k (by simp)
theorem Only.then1 {S : List Nat} {a b c : World} {t : Nat} (h : Only S a b) (k : Only [t] b c) (ht : t ∈ S ∨ a.heap.size ≤ t) : Only S a c := h.trans k (by simpa using ht)
theorem Only.thenN {S : List Nat} {a b c : World} {t : Nat} (h : Only S a b) (k : Only [t] b c) (ht : a.heap.size ≤ t) : Only S a c := h.trans k (by simpa using Or.inr ht)

theorem Only.mono {S T : List Nat} {a b : World} (h : Only S a b) (hs : ∀ t ∈ S, t ∈ T ∨ a.heap.size ≤ t) : Only T a b :=
  ⟨h.os, h.tape, h.output, h.size, fun i hi hn => h.block i hi fun ht => by rcases hs i ht with h1 | h1; exact hn h1; omega⟩

theorem Only.below {S : List Nat} {a b : World} (h : Only S a b) (hs : ∀ t ∈ S, a.heap.size ≤ t) : Below a.heap.size a b :=
  ⟨h.os, h.tape, h.output, h.size, fun i hi => h.block i hi fun ht => by have := hs i ht; omega⟩

theorem Only.drew {S : List Nat} {a b : World} (h : Only S a b) : Only S a b.drew := ⟨h.os, h.tape, h.output, h.size, h.block⟩
theorem Only.drewN {S : List Nat} {a b : World} (h : Only S a b) (n : Nat) : Only S a (b.drewN n) := ⟨h.os, h.tape, h.output, h.size, h.block⟩

theorem Only.alloc {S : List Nat} {a b : World} (h : Only S a b) (o : Obj) : Only S a (b.alloc o) :=
  ⟨h.os, h.tape, h.output, Nat.le_trans h.size (by simp), fun k hk hn => by rw [Below.heap_alloc _ _ _ (Nat.lt_of_lt_of_le hk h.size)]; exact h.block k hk hn⟩

theorem Only.setCell {S : List Nat} {a b : World} (h : Only S a b) {p : Addr} (hp : p.block ∈ S ∨ a.heap.size ≤ p.block) (u : Value) : Only S a (b.setCell p u) :=
  ⟨h.os, h.tape, h.output, Nat.le_trans h.size (by simp [World.setCell]), fun k hk hn => by
    rw [Below.heap_setCell _ _ _ _ (fun e => by subst e; rcases hp with h1 | h1; exact hn h1; omega)]; exact h.block k hk hn⟩

theorem only6 (w : World) (b : Nat) (i0 i1 i2 i3 i4 i5 : Nat) (v0 v1 v2 v3 v4 v5 : Value) :
    Only [b] w ((((((w.setCell ⟨b, i0, none⟩ v0).setCell ⟨b, i1, none⟩ v1).setCell ⟨b, i2, none⟩ v2).setCell ⟨b, i3, none⟩ v3).setCell ⟨b, i4, none⟩ v4).setCell ⟨b, i5, none⟩ v5) :=
  ((((((Only.refl [b] w).setCell (by simp) _).setCell (by simp) _).setCell (by simp) _).setCell (by simp) _).setCell (by simp) _).setCell (by simp) _

/-- Behind a law that ends in 'grownBy' (append, make, copy). -/
theorem Only.grown {S : List Nat} {a w w' : World} {row : Option Nat} (h : Only S a w) (hg : w.grownBy w' row) (hr : ∀ k, row = some k → k ∈ S ∨ a.heap.size ≤ k) : Only S a w' :=
  ⟨hg.os.trans h.os, hg.tape.trans h.tape, hg.output.trans h.output, Nat.le_trans h.size hg.size, fun k hk hn => by
    rw [hg.block k (Nat.lt_of_lt_of_le hk h.size) (fun e => by rcases hr k e.symm with h1 | h1; exact hn h1; omega)]; exact h.block k hk hn⟩

theorem Only.keep {S : List Nat} {a b : World} {k : Nat} {o : Obj} (h : Only S a b) (ho : a.heap[k]? = some o) (hk : k ∉ S) : b.heap[k]? = some o := by
  rw [h.block k (by rcases Nat.lt_or_ge k a.heap.size with h1 | h1; exact h1; simp [Array.getElem?_eq_none h1] at ho) hk, ho]

theorem Only.cell {S : List Nat} {a b : World} (h : Only S a b) {p : Addr} (hp : p.block < a.heap.size) (hn : p.block ∉ S) : b.cell? p = a.cell? p :=
  World.cell?_of_block (w := a) (h.block p.block hp hn)

theorem Only.keepCell {S : List Nat} {a b : World} (h : Only S a b) {p : Addr} {v : Value} (hc : a.cell? p = some v) (hn : p.block ∉ S) : b.cell? p = some v := by
  rw [h.cell ?_ hn, hc]
  rcases Nat.lt_or_ge p.block a.heap.size with h1 | h1
  · exact h1
  · simp [World.cell?, Array.getElem?_eq_none h1] at hc

theorem lt_of_blk {w : World} {b : Nat} {o : Obj} (h : w.heap[b]? = some o) : b < w.heap.size := by
  rcases Nat.lt_or_ge b w.heap.size with h1 | h1
  · exact h1
  · simp [Array.getElem?_eq_none h1] at h

theorem lt_of_cell {w : World} {p : Addr} {v : Value} (h : w.cell? p = some v) : p.block < w.heap.size := by
  rcases Nat.lt_or_ge p.block w.heap.size with h1 | h1
  · exact h1
  · simp [World.cell?, Array.getElem?_eq_none h1] at h

/-- Out of a whole block: a cell, and that it may be written. -/
theorem cell_blk {w : World} {b : Nat} {c : Array Value} {T : TypeId} {f : Nat × Nat} (h : w.heap[b]? = some (.cells c T f)) (i : Nat) : w.cell? ⟨b, i, none⟩ = c[i]? := by
  simp [World.cell?, h]
theorem free_blk {w : World} {b : Nat} {c : Array Value} {T : TypeId} (h : w.heap[b]? = some (.cells c T (0, 0))) (i : Nat) : w.frozen? ⟨b, i, none⟩ = false := by
  simp [World.frozen?, h]

/-- A store into a whole block; another block behind a store; a new block. -/
theorem blk_setCell {w : World} {b : Nat} {c : Array Value} {T : TypeId} {f : Nat × Nat} (h : w.heap[b]? = some (.cells c T f)) (i : Nat) (v : Value) :
    (w.setCell ⟨b, i, none⟩ v).heap[b]? = some (.cells (c.setIfInBounds i v) T f) := by
  simp only [World.setCell, Array.getElem?_modify, ↓reduceIte, h, Option.map_some, Option.isSome_none, Bool.false_eq_true]
theorem blk_setCell_ne {w : World} {p : Addr} {b : Nat} (hne : b ≠ p.block) (v : Value) : (w.setCell p v).heap[b]? = w.heap[b]? := Below.heap_setCell _ _ _ _ hne
theorem blk_alloc_old {w : World} {b : Nat} (h : b < w.heap.size) (o : Obj) : (w.alloc o).heap[b]? = w.heap[b]? := Below.heap_alloc _ _ _ h
theorem blk_alloc_new (w : World) (o : Obj) : (w.alloc o).heap[w.heap.size]? = some o := by
  show (w.heap.push o)[w.heap.size]? = _
  simp

/-- The cells xs lie from a slice's address on; of an empty slice's address nothing is known. -/
def CellsAt (w : World) (ao : Option Addr) (xs : List Value) : Prop :=
  0 < xs.length → ∃ b off, ao = some ⟨b, off, none⟩ ∧ ∀ j (h : j < xs.length), w.cell? ⟨b, off + j, none⟩ = some xs[j]

theorem CellsAt.nil (w : World) (ao : Option Addr) : CellsAt w ao [] := fun h => by simp at h

theorem CellsAt.ints {w : World} {ao : Option Addr} {k : IntKind} {zs : List Int} (h : CellsAt w ao (zs.map (.int k))) (hp : 0 < zs.length) :
    ∃ b off, ao = some ⟨b, off, none⟩ ∧ ∀ j, j < zs.length → w.cell? ⟨b, off + j, none⟩ = some (.int k (zs.getD j 0)) := by
  obtain ⟨b, off, e, hc⟩ := h (by simpa using hp)
  exact ⟨b, off, e, fun j hj => by rw [hc j (by simpa using hj)]; simp [List.getD, List.getElem?_eq_getElem hj]⟩

theorem CellsAt.keep {S : List Nat} {a b : World} {ao : Option Addr} {xs : List Value} (h : CellsAt a ao xs) (ho : Only S a b) (hn : ∀ p, ao = some p → p.block ∉ S) : CellsAt b ao xs := by
  intro hp
  obtain ⟨bl, off, e, hc⟩ := h hp
  exact ⟨bl, off, e, fun j hj => ho.keepCell (hc j hj) (by have := hn _ e; exact this)⟩

theorem CellsAt.keep0 {a b : World} {ao : Option Addr} {xs : List Value} (h : CellsAt a ao xs) (ho : Only [] a b) : CellsAt b ao xs := h.keep ho (by simp)

/-- Structs of integers lie from a slice's address on: rows are their numbers, ks the kinds of their fields. -/
def RowsAt (w : World) (ao : Option Addr) (ks : List IntKind) (rows : List (List Int)) : Prop :=
  0 < rows.length → ∃ b off, ao = some ⟨b, off, none⟩ ∧ ∀ i, i < rows.length → ∀ j k, ks[j]? = some k → w.cell? ⟨b, off + i * ks.length + j, none⟩ = some (.int k ((rows.getD i []).getD j 0))

theorem RowsAt.keep0 {a b : World} {ao : Option Addr} {ks : List IntKind} {rows : List (List Int)} (h : RowsAt a ao ks rows) (ho : Only [] a b) : RowsAt b ao ks rows := by
  intro hp
  obtain ⟨bl, off, e, hc⟩ := h hp
  exact ⟨bl, off, e, fun i hi j k hk => ho.keepCell (hc i hi j k hk) (by simp)⟩

/-- A slice value that is not nil, over whole cells from the head of block b on: its elements are xs. Of an empty one no block is asked. -/
def RowAt (w : World) (v : Value) (b : Nat) (T : TypeId) (xs : List Value) : Prop :=
  ∃ a cap, v = .slice (some a) xs.length cap ∧ xs.length ≤ cap ∧ cap ≤ 9223372036854775807 ∧
    (0 < xs.length → a = ⟨b, 0, none⟩ ∧ ∃ arr, w.heap[b]? = some (.cells arr T (0, 0)) ∧ arr.toList.take xs.length = xs)

theorem rowAt_of_owns {w : World} {base : Nat} {T : TypeId} {v : Value} {n : Nat} {xs : List Value} (h : w.ownsRow base T 1 v n xs) (hv : v ≠ .slice none 0 0) :
    ∃ b, RowAt w v b T xs ∧ base ≤ b ∧ b < w.heap.size := by
  obtain ⟨hl, h | ⟨g, cap, cur, rfl, hb, hh, hn, hc, hs, ht⟩⟩ := h
  · exact absurd h.1 hv
  · simp only [Nat.mul_one] at hl ht
    subst hl
    exact ⟨g, ⟨⟨g, 0, none⟩, cap, rfl, hn, by unfold maxLen at hc; omega, fun _ => ⟨rfl, cur, hh, ht⟩⟩, hb, lt_of_blk hh⟩

/-- The same, where the slice's address is known. -/
theorem rowAt_of_owns2 {w : World} {base : Nat} {T : TypeId} {g n cap : Nat} {xs : List Value} (h : w.ownsRow base T 1 (.slice (some ⟨g, 0, none⟩) n cap) n xs) :
    RowAt w (.slice (some ⟨g, 0, none⟩) n cap) g T xs ∧ base ≤ g ∧ g < w.heap.size := by
  obtain ⟨hl, h | ⟨g', cap', cur, e, hb, hh, hn, hc, hs, ht⟩⟩ := h
  · exact absurd h.1 (by simp)
  · simp only [Nat.mul_one] at hl ht
    simp at e
    obtain ⟨rfl, rfl⟩ := e
    subst hl
    exact ⟨⟨⟨g, 0, none⟩, cap, rfl, hn, by unfold maxLen at hc; omega, fun _ => ⟨rfl, cur, hh, ht⟩⟩, hb, lt_of_blk hh⟩

theorem RowAt.cells {w : World} {v : Value} {b : Nat} {T : TypeId} {xs : List Value} (h : RowAt w v b T xs) : ∃ a cap, v = .slice (some a) xs.length cap ∧ CellsAt w (some a) xs ∧ xs.length ≤ cap ∧ cap ≤ 9223372036854775807 := by
  obtain ⟨a, cap, rfl, h1, h2, h3⟩ := h
  refine ⟨a, cap, rfl, fun hp => ?_, h1, h2⟩
  obtain ⟨rfl, arr, h4, h5⟩ := h3 hp
  refine ⟨b, 0, rfl, fun j hj => ?_⟩
  rw [cell_blk h4, Nat.zero_add]
  have : arr.toList[j]? = some xs[j] := by
    have h6 : (arr.toList.take xs.length)[j]? = some xs[j] := by rw [h5]; exact List.getElem?_eq_getElem hj
    rw [List.getElem?_take] at h6
    simpa [hj] using h6
  simpa using this

/-- Elements that lie at an address, asked for one by one. -/
theorem CellsAt.news {w : World} {a : Addr} {xs : List Value} (h : CellsAt w (some a) xs) : ∀ j u, xs[j]? = some u → w.cell? (a.add j) = some u := by
  intro j u hu
  obtain ⟨hj, rfl⟩ := List.getElem?_eq_some_iff.1 hu
  obtain ⟨b, off, e, hc⟩ := h (by omega)
  cases e
  rw [add_plain]
  exact hc j hj

theorem RowAt.keep {S : List Nat} {w w' : World} {v : Value} {b : Nat} {T : TypeId} {xs : List Value} (h : RowAt w v b T xs) (ho : Only S w w') (hb : b ∉ S) : RowAt w' v b T xs := by
  obtain ⟨a, cap, e, h1, h2, h3⟩ := h
  refine ⟨a, cap, e, h1, h2, fun hp => ?_⟩
  obtain ⟨e1, arr, h4, h5⟩ := h3 hp
  exact ⟨e1, arr, ho.keep h4 hb, h5⟩

theorem take_get {α : Type} {l xs : List α} {n : Nat} (h : l.take n = xs) {j : Nat} (hj : j < xs.length) : l[j]? = some xs[j] := by
  subst h
  simp only [List.length_take] at hj
  rw [List.getElem?_eq_getElem (by omega)]
  simp

/-- What the walk wants of an element: the address, the cell, that it may be written; and the row behind a store. -/
theorem RowAt.at {w : World} {v : Value} {b : Nat} {T : TypeId} {xs : List Value} (h : RowAt w v b T xs) (hp : 0 < xs.length) :
    ∃ cap, v = .slice (some ⟨b, 0, none⟩) xs.length cap ∧ xs.length ≤ cap ∧ cap ≤ 9223372036854775807 ∧ (∀ j (hj : j < xs.length), w.cell? ⟨b, j, none⟩ = some xs[j]) ∧ (∀ j, w.frozen? ⟨b, j, none⟩ = false) ∧
      ∀ j (x : Value) (w' : World), j < xs.length → w'.heap[b]? = (w.setCell ⟨b, j, none⟩ x).heap[b]? → RowAt w' v b T (xs.set j x) := by
  obtain ⟨a, cap, rfl, h1, h2, h3⟩ := h
  obtain ⟨rfl, arr, h4, h5⟩ := h3 hp
  refine ⟨cap, rfl, h1, h2, fun j hj => ?_, fun j => free_blk h4 j, fun j x w' hj hw => ?_⟩
  · rw [cell_blk h4 j]
    have := take_get h5 hj
    simpa using this
  · refine ⟨_, cap, by rw [List.length_set], by rw [List.length_set]; exact h1, h2, fun _ => ⟨rfl, arr.setIfInBounds j x, by rw [hw, blk_setCell h4], ?_⟩⟩
    rw [List.length_set, Array.toList_setIfInBounds, List.take_set, h5]

/-- A call of a function value that the walk does not know by its number. -/
theorem run_callFunc_enter {P : Program} {f : FuncId} {fn : Func} (hf : P.funcs[f]? = some fn) (hname : (fn.name == "runtime.NumGoroutine") = false) (hb : fn.body.isNone = false) (args : Array Value) (w : World) :
    (callFunc f args).run P w = .ok (.enter f args) w := by
  have h1 : ¬ fn.name = "runtime.NumGoroutine" := by simpa using hname
  have h2 : ¬ fn.body = none := by intro h; rw [h] at hb; simp at hb
  simp [callFunc, hf, h1, h2]

theorem heap_drew (w : World) : w.drew.heap = w.heap := rfl
theorem heap_drewN (w : World) (n : Nat) : (w.drewN n).heap = w.heap := rfl

theorem wf_i64 {n : Int} (h : (Lit.int .i64 n).wf = true) : -9223372036854775808 ≤ n ∧ n ≤ 9223372036854775807 := by
  simpa [Lit.wf, IntKind.min, IntKind.max, IntKind.signed, IntKind.bits] using h
theorem wf_u64 {n : Int} (h : (Lit.int .u64 n).wf = true) : 0 ≤ n ∧ n ≤ 18446744073709551615 := by
  simpa [Lit.wf, IntKind.min, IntKind.max, IntKind.signed, IntKind.bits] using h
theorem wf_u8 {n : Int} (h : (Lit.int .u8 n).wf = true) : 0 ≤ n ∧ n ≤ 255 := by
  simpa [Lit.wf, IntKind.min, IntKind.max, IntKind.signed, IntKind.bits] using h

theorem ret_int {k : IntKind} {a b : Int} (h : a = b) : Ending.returned (.int k a) = .returned (.int k b) := by rw [h]
theorem ret_bool {a b : Bool} (h : a = b) : Ending.returned (.bool a) = .returned (.bool b) := by rw [h]
end Go.Proofs.YtncnepmgmphanaaDoor
