/- Plain laws about worlds that all texts of this seat use: which blocks a call may have changed, and what a block holds. No condition. -/
import Derived.WalkKit
import Derived.ProofKit
import Derived.Deep.Draws
import Derived.Lib.Hide
import Derived.Test.YtncnepmgmphanaaGreatDoorRows
import Derived.OpenShut
import Derived.SizedLaws
import Derived.Deep.Slices
import Derived.Deep.Fields
import Derived.ChangeSame
set_option linter.unusedVariables false
set_option linter.unusedSimpArgs false
set_option linter.unusedSectionVars false
namespace Go.Proofs.YtncnepmgmphanaaGreatDoor
theorem sI {α : Type} : (∀ (l : List α) (i : Nat) (a : α), l.toArray.setIfInBounds i a = (l.set i a).toArray) ∧ (∀ (x a : α) (l : List α), (x :: l).set 0 a = a :: l) ∧ ∀ (x a : α) (l : List α) (n : Nat), (x :: l).set (n + 1) a = x :: l.set n a := ⟨fun _ _ _ => List.setIfInBounds_toArray .., fun _ _ _ => rfl, fun _ _ _ _ => rfl⟩
open Go.RowKit
open Go.WideShapes (add_plain)
structure Only (S : List Nat) (w w' : World) : Prop where
  os : w'.os = w.os
  tape : w'.tape = w.tape
  output : w'.output = w.output
  size : w.heap.size ≤ w'.heap.size
  block : ∀ k, k < w.heap.size → k ∉ S → w'.heap[k]? = w.heap[k]?
theorem Only.refl (S : List Nat) (w : World) : Only S w w := ⟨rfl, rfl, rfl, Nat.le_refl _, fun _ _ _ => rfl⟩
theorem Only.trans {S T : List Nat} {a b c : World} (h : Only S a b) (k : Only T b c) (hs : ∀ t ∈ T, t ∈ S ∨ a.heap.size ≤ t) : Only S a c :=
  ⟨k.os.trans h.os, k.tape.trans h.tape, k.output.trans h.output, Nat.le_trans h.size k.size, fun i hi hn => by
    rw [k.block i (Nat.lt_of_lt_of_le hi h.size) (fun ht => by rcases hs i ht with h1 | h1; exact hn h1; omega), h.block i hi hn]⟩
theorem Only.then0 {S : List Nat} {a b c : World} (h : Only S a b) (k : Only [] b c) : Only S a c := h.trans k (by simp)
theorem Only.thenN {S : List Nat} {a b c : World} {t : Nat} (h : Only S a b) (k : Only [t] b c) (ht : a.heap.size ≤ t) : Only S a c := h.trans k (by simpa using Or.inr ht)
theorem Only.below {S : List Nat} {a b : World} (h : Only S a b) (hs : ∀ t ∈ S, a.heap.size ≤ t) : Below a.heap.size a b :=
  ⟨h.os, h.tape, h.output, h.size, fun i hi => h.block i hi fun ht => by have := hs i ht; omega⟩
theorem Only.drew {S : List Nat} {a b : World} (h : Only S a b) : Only S a b.drew := ⟨h.os, h.tape, h.output, h.size, h.block⟩
theorem Only.drewN {S : List Nat} {a b : World} (h : Only S a b) (n : Nat) : Only S a (b.drewN n) := ⟨h.os, h.tape, h.output, h.size, h.block⟩
theorem Only.alloc {S : List Nat} {a b : World} (h : Only S a b) (o : Obj) : Only S a (b.alloc o) :=
  ⟨h.os, h.tape, h.output, Nat.le_trans h.size (by simp), fun k hk hn => by rw [Below.heap_alloc _ _ _ (Nat.lt_of_lt_of_le hk h.size)]; exact h.block k hk hn⟩
theorem Only.setCell {S : List Nat} {a b : World} (h : Only S a b) {p : Addr} (hp : p.block ∈ S ∨ a.heap.size ≤ p.block) (u : Value) : Only S a (b.setCell p u) :=
  ⟨h.os, h.tape, h.output, Nat.le_trans h.size (by simp [World.setCell]), fun k hk hn => by
    rw [Below.heap_setCell _ _ _ _ (fun e => by subst e; rcases hp with h1 | h1; exact hn h1; omega)]; exact h.block k hk hn⟩
theorem Only.grown {S : List Nat} {a w w' : World} {row : Option Nat} (h : Only S a w) (hg : w.grownBy w' row) (hr : ∀ k, row = some k → k ∈ S ∨ a.heap.size ≤ k) : Only S a w' :=
  ⟨hg.os.trans h.os, hg.tape.trans h.tape, hg.output.trans h.output, Nat.le_trans h.size hg.size, fun k hk hn => by
    rw [hg.block k (Nat.lt_of_lt_of_le hk h.size) (fun e => by rcases hr k e.symm with h1 | h1; exact hn h1; omega)]; exact h.block k hk hn⟩
theorem Only.keep {S : List Nat} {a b : World} {k : Nat} {o : Obj} (h : Only S a b) (ho : a.heap[k]? = some o) (hk : k ∉ S) : b.heap[k]? = some o := by
  rw [h.block k (by rcases Nat.lt_or_ge k a.heap.size with h1 | h1; exact h1; simp [Array.getElem?_eq_none h1] at ho) hk, ho]
theorem Only.cell {S : List Nat} {a b : World} (h : Only S a b) {p : Addr} (hp : p.block < a.heap.size) (hn : p.block ∉ S) : b.cell? p = a.cell? p :=
  World.cell?_of_block (w := a) (h.block p.block hp hn)
theorem Only.keepCell {S : List Nat} {a b : World} (h : Only S a b) {p : Addr} {v : Value} (hc : a.cell? p = some v) (hn : p.block ∉ S) : b.cell? p = some v := by
  rw [h.cell ?_ hn, hc]
  rcases Nat.lt_or_ge p.block a.heap.size with h1 | h1
  · exact h1
  · simp [World.cell?, Array.getElem?_eq_none h1] at hc
theorem lt_of_blk {w : World} {b : Nat} {o : Obj} (h : w.heap[b]? = some o) : b < w.heap.size := by
  rcases Nat.lt_or_ge b w.heap.size with h1 | h1
  · exact h1
  · simp [Array.getElem?_eq_none h1] at h
theorem lt_of_cell {w : World} {p : Addr} {v : Value} (h : w.cell? p = some v) : p.block < w.heap.size := by
  rcases Nat.lt_or_ge p.block w.heap.size with h1 | h1
  · exact h1
  · simp [World.cell?, Array.getElem?_eq_none h1] at h
theorem cell_blk {w : World} {b : Nat} {c : Array Value} {T : TypeId} {f : Nat × Nat} (h : w.heap[b]? = some (.cells c T f)) (i : Nat) : w.cell? ⟨b, i, none⟩ = c[i]? := by
  simp [World.cell?, h]
theorem free_blk {w : World} {b : Nat} {c : Array Value} {T : TypeId} (h : w.heap[b]? = some (.cells c T (0, 0))) (i : Nat) : w.frozen? ⟨b, i, none⟩ = false := by
  simp [World.frozen?, h]
theorem blk_setCell {w : World} {b : Nat} {c : Array Value} {T : TypeId} {f : Nat × Nat} (h : w.heap[b]? = some (.cells c T f)) (i : Nat) (v : Value) :
    (w.setCell ⟨b, i, none⟩ v).heap[b]? = some (.cells (c.setIfInBounds i v) T f) := by
  simp only [World.setCell, Array.getElem?_modify, ↓reduceIte, h, Option.map_some, Option.isSome_none, Bool.false_eq_true]
theorem blk_setCell_ne {w : World} {p : Addr} {b : Nat} (hne : b ≠ p.block) (v : Value) : (w.setCell p v).heap[b]? = w.heap[b]? := Below.heap_setCell _ _ _ _ hne
theorem blk_alloc_old {w : World} {b : Nat} (h : b < w.heap.size) (o : Obj) : (w.alloc o).heap[b]? = w.heap[b]? := Below.heap_alloc _ _ _ h
theorem blk_alloc_new (w : World) (o : Obj) : (w.alloc o).heap[w.heap.size]? = some o := by
  show (w.heap.push o)[w.heap.size]? = _
  simp
def CellsAt (w : World) (ao : Option Addr) (xs : List Value) : Prop :=
  0 < xs.length → ∃ b off, ao = some ⟨b, off, none⟩ ∧ ∀ j (h : j < xs.length), w.cell? ⟨b, off + j, none⟩ = some xs[j]
theorem CellsAt.nil (w : World) (ao : Option Addr) : CellsAt w ao [] := fun h => by simp at h
theorem CellsAt.ints {w : World} {ao : Option Addr} {k : IntKind} {zs : List Int} (h : CellsAt w ao (zs.map (.int k))) (hp : 0 < zs.length) :
    ∃ b off, ao = some ⟨b, off, none⟩ ∧ ∀ j, j < zs.length → w.cell? ⟨b, off + j, none⟩ = some (.int k (zs.getD j 0)) := by
  obtain ⟨b, off, e, hc⟩ := h (by simpa using hp)
  exact ⟨b, off, e, fun j hj => by rw [hc j (by simpa using hj)]; simp [List.getD, List.getElem?_eq_getElem hj]⟩
theorem CellsAt.keep {S : List Nat} {a b : World} {ao : Option Addr} {xs : List Value} (h : CellsAt a ao xs) (ho : Only S a b) (hn : ∀ p, ao = some p → p.block ∉ S) : CellsAt b ao xs := by
  intro hp
  obtain ⟨bl, off, e, hc⟩ := h hp
  exact ⟨bl, off, e, fun j hj => ho.keepCell (hc j hj) (by have := hn _ e; exact this)⟩
theorem CellsAt.keep0 {a b : World} {ao : Option Addr} {xs : List Value} (h : CellsAt a ao xs) (ho : Only [] a b) : CellsAt b ao xs := h.keep ho (by simp)
def RowsAt (w : World) (ao : Option Addr) (ks : List IntKind) (rows : List (List Int)) : Prop :=
  0 < rows.length → ∃ b off, ao = some ⟨b, off, none⟩ ∧ ∀ i, i < rows.length → ∀ j k, ks[j]? = some k → w.cell? ⟨b, off + i * ks.length + j, none⟩ = some (.int k ((rows.getD i []).getD j 0))
def RowAt (w : World) (v : Value) (b : Nat) (T : TypeId) (xs : List Value) : Prop :=
  ∃ a cap, v = .slice (some a) xs.length cap ∧ xs.length ≤ cap ∧ cap ≤ 9223372036854775807 ∧
    (0 < xs.length → a = ⟨b, 0, none⟩ ∧ ∃ arr, w.heap[b]? = some (.cells arr T (0, 0)) ∧ arr.toList.take xs.length = xs)
theorem run_callFunc_enter {P : Program} {f : FuncId} {fn : Func} (hf : P.funcs[f]? = some fn) (hname : (fn.name == "runtime.NumGoroutine") = false) (hb : fn.body.isNone = false) (args : Array Value) (w : World) :
    (callFunc f args).run P w = .ok (.enter f args) w := by
  have h1 : ¬ fn.name = "runtime.NumGoroutine" := by simpa using hname
  have h2 : ¬ fn.body = none := by intro h; rw [h] at hb; simp at hb
  simp [callFunc, hf, h1, h2]
theorem wf_u8 {n : Int} (h : (Lit.int .u8 n).wf = true) : 0 ≤ n ∧ n ≤ 255 := by
  simpa [Lit.wf, IntKind.min, IntKind.max, IntKind.signed, IntKind.bits] using h
theorem ret_int {k : IntKind} {a b : Int} (h : a = b) : Ending.returned (.int k a) = .returned (.int k b) := by rw [h]
theorem ret_bool {a b : Bool} (h : a = b) : Ending.returned (.bool a) = .returned (.bool b) := by rw [h]
end Go.Proofs.YtncnepmgmphanaaGreatDoor

namespace Go.Proofs.YtncnepmgmphanaaGreatDoor
open Go.ChangeShapes Go.WideShapes Go.ChangeAt Go.RowKit
theorem own : ownKnob Tryz.prog.godebug = none := by kernel_rfl
theorem laidOut : laidOutB Tryz.prog = true := by kernel_rfl
section
variable {H : Type} {enc : TypeId × Value → H}
theorem trodAll_below {P : Program} (hl : laidOutB P = true) {W W' : World} (hb : Below W.heap.size W W') : ∀ {ts : List TypeId} {vs : List Value} {ds : List (DataW H)} {ps : List MemPlace},
    DataW.TrodAll enc P W 0 (fun _ => true) true ts vs ds ps → (∀ t ∈ ts, P.readableRec t = true ∧ t < P.types.size) → (∀ x ∈ ps, x.block < W.heap.size) →
    DataW.TrodAll enc P W' 0 (fun b => decide (b < W.heap.size)) true ts vs ds ps := by
  intro ts
  induction ts with
  | nil =>
    intro vs ds ps h _ _
    cases vs <;> cases ds <;> simp [DataW.TrodAll] at h ⊢
    exact h
  | cons t ts ih =>
    intro vs ds ps h hr hlt
    obtain ⟨v, vs', d, ds', p, q, rfl, rfl, rfl, h1, h2⟩ := trodAll_cons h
    exact trodAll_cons_mk (Below.trod hl (hr t (by simp)).1 (hr t (by simp)).2 h1 hb (fun x hx => hlt x (by simp [hx])))
      (ih h2 (fun t ht => hr t (by simp [ht])) (fun x hx => hlt x (by simp [hx])))
theorem trodAll_length {P : Program} {W : World} {base : Nat} {spare : Nat → Bool} {held : Bool} : ∀ {ts : List TypeId} {vs : List Value} {ds : List (DataW H)} {ps : List MemPlace},
    DataW.TrodAll enc P W base spare held ts vs ds ps → ds.length = ts.length := by
  intro ts
  induction ts with
  | nil => intro vs ds ps h; cases vs <;> cases ds <;> simp [DataW.TrodAll] at h ⊢
  | cons t ts ih =>
    intro vs ds ps h
    obtain ⟨v, vs', d, ds', p, q, rfl, rfl, rfl, h1, h2⟩ := trodAll_cons h
    simp [ih h2]
theorem open_islice {P : Program} {W : World} {base b0 : Nat} {t e : TypeId} {k : IntKind} {v : Value} {d : DataW H} {ps : List MemPlace} (ht : P.underlying t = some (.slice e)) (he : P.underlying e = some (.int k)) (hc : P.cellsOf e = 1)
    (hok : Value.okWide P W .any b0 t v) (h : DataW.Trod enc P W base (fun _ => true) true t v d ps) :
    ∃ (ao : Option Addr) (cap : Nat) (zs : List Int), v = .slice ao zs.length cap ∧ CellsAt W ao (zs.map (.int k)) ∧ (∀ z ∈ zs, (Lit.int k z).wf = true) ∧ zs.length ≤ cap ∧ cap ≤ maxLen := by
  obtain ⟨a0, len, cap, rfl⟩ := okWide_slice ht hok
  obtain ⟨fuel, hf⟩ := h
  rcases open_ints ht he hc hf with ⟨hcs, _⟩ | ⟨a, len', cap', zs, hcs, _, hl, hm, hz, _, hcell, hwz⟩
  · simp [Value.cells] at hcs
    obtain ⟨rfl, rfl, rfl⟩ := hcs
    exact ⟨none, 0, [], rfl, CellsAt.nil _ _, by simp, by simp, by simp⟩
  · simp [Value.cells] at hcs
    obtain ⟨rfl, rfl, rfl⟩ := hcs
    simp only [if_true] at hz
    have e1 : (zs.take len).length = len := by simp; omega
    refine ⟨some a, cap, zs.take len, by rw [e1], ?_, fun z hzm => hwz z (List.mem_of_mem_take hzm), by omega, hm⟩
    intro hp
    rw [List.length_map, e1] at hp
    obtain ⟨b, off, rfl, hcl⟩ := ints_at hcell (by omega)
    refine ⟨b, off, rfl, fun j hj => ?_⟩
    rw [List.length_map, e1] at hj
    rw [hcl j (by omega)]
    simp [List.getD, List.getElem?_eq_getElem (show j < zs.length by omega)]
theorem open_islice2 {P : Program} {W : World} {base b0 : Nat} {t e : TypeId} {k : IntKind} {v : Value} {d : DataW H} {ps : List MemPlace} (ht : P.underlying t = some (.slice e)) (he : P.underlying e = some (.int k)) (hc : P.cellsOf e = 1)
    (hok : Value.okWide P W .any b0 t v) (h : DataW.Trod enc P W base (fun _ => true) true t v d ps) :
    ∃ (ao : Option Addr) (cap : Nat) (zs : List Int), v = .slice ao zs.length cap ∧ CellsAt W ao (zs.map (.int k)) ∧ (∀ z ∈ zs, (Lit.int k z).wf = true) ∧ zs.length ≤ cap ∧ cap ≤ maxLen ∧ (ao = none → zs = [] ∧ cap = 0) := by
  obtain ⟨ao, cap, zs, rfl, h1, h2, h3, h4⟩ := open_islice ht he hc hok h
  refine ⟨ao, cap, zs, rfl, h1, h2, h3, h4, ?_⟩
  rintro rfl
  obtain ⟨fuel, hf⟩ := h
  rcases open_ints ht he hc hf with ⟨hcs, _⟩ | ⟨a, len', cap', zs', hcs, _⟩
  · simp [Value.cells] at hcs
    exact ⟨hcs.1, hcs.2⟩
  · simp [Value.cells] at hcs
def intFieldsB (P : Program) (fs : Array Field) (ks : List IntKind) : Bool :=
  fs.size == ks.length && (List.range ks.length).all fun j => match fs[j]?, ks[j]? with
    | some f, some k => (match P.underlying f.type with | some (.int k') => k' == k | _ => false)
    | _, _ => false
theorem intFields_at {P : Program} {fs : Array Field} {ks : List IntKind} (h : intFieldsB P fs ks = true) : fs.size = ks.length ∧ ∀ (j : Nat) (k : IntKind), ks[j]? = some k → ∃ f : Field, fs[j]? = some f ∧ P.underlying f.type = some (.int k) := by
  simp only [intFieldsB, Bool.and_eq_true, beq_iff_eq, List.all_eq_true, List.mem_range] at h
  refine ⟨h.1, fun j k hj => ?_⟩
  have hlt : j < ks.length := (List.getElem?_eq_some_iff.1 hj).1
  have h2 := h.2 j hlt
  rw [hj] at h2
  cases hf : fs[j]? with
  | none => rw [hf] at h2; simp at h2
  | some f =>
    rw [hf] at h2
    refine ⟨f, rfl, ?_⟩
    revert h2
    dsimp only
    split
    · rename_i k' hu
      intro h2
      have : k' = k := by simpa using h2
      rw [hu, this]
    · intro h2; simp at h2
def intCell : Option Value → Int
  | some (.int _ n) => n
  | _ => 0
theorem open_sslice {P : Program} {W : World} {base b0 : Nat} {t e : TypeId} {fs : Array Field} {ks : List IntKind} {v : Value} {d : DataW H} {ps : List MemPlace} (ht : P.underlying t = some (.slice e)) (he : P.underlying e = some (.struct fs))
    (hone : Go.Deep.oneCellFields P fs = true) (hC : P.cellsOf e = fs.size) (hks : intFieldsB P fs ks = true) (hk0 : 0 < ks.length)
    (hok : Value.okWide P W .any b0 t v) (h : DataW.Trod enc P W base (fun _ => true) true t v d ps) :
    ∃ (ao : Option Addr) (cap : Nat) (rows : List (List Int)), v = .slice ao rows.length cap ∧ RowsAt W ao ks rows ∧ (∀ r ∈ rows, r.length = ks.length ∧ ∀ (j : Nat) (k : IntKind), ks[j]? = some k → (Lit.int k (r.getD j 0)).wf = true) ∧ rows.length ≤ cap ∧ cap ≤ maxLen := by
  obtain ⟨a0, len, cap, rfl⟩ := okWide_slice ht hok
  obtain ⟨fuel, hf⟩ := h
  obtain ⟨hsz, hat⟩ := intFields_at hks
  rcases Go.Deep.open_slice ht hf with ⟨hcs, _⟩ | ⟨a, len', cap', m, n, D, Pl, hcs, hb, hl, hm, hmm, hx, hi⟩
  · simp [Value.cells] at hcs
    obtain ⟨rfl, rfl, rfl⟩ := hcs
    exact ⟨none, 0, [], rfl, fun hp => by simp at hp, by simp, by simp, by simp⟩
  · simp [Value.cells] at hcs
    obtain ⟨rfl, rfl, rfl⟩ := hcs
    simp only [if_true] at hmm
    subst hmm
    have cell : ∀ i, i < len → ∀ j k, ks[j]? = some k → ∃ z, W.cell? (a.add (i * ks.length + j)) = some (.int k z) ∧ (Lit.int k z).wf = true := by
      intro i hil j k hj
      obtain ⟨cs', hc, ht'⟩ := hi i (by omega)
      rw [hC, hsz] at hc
      obtain ⟨ys, n', hn', hy, hlen, hyl, hfs⟩ := DataW.trod_struct he ht'
      obtain ⟨_, hcl, hcat⟩ := World.cells?_some hc
      have hjl : j < ks.length := (List.getElem?_eq_some_iff.1 hj).1
      obtain ⟨f, hfj, hfu⟩ := hat j k hj
      obtain ⟨ho, hk⟩ := Go.Deep.hone_of hone j f hfj
      have hcell := hcat j hjl
      have h1 := hfs j f hfj
      rw [ho, hk] at h1
      have hone' : (cs'.drop j).take 1 = [cs'[j]'(by omega)] := by
        rw [List.drop_eq_getElem_cons (by omega)]
        rfl
      rw [hone'] at h1
      have hys : ys[j]? = some (ys[j]'(by omega)) := List.getElem?_eq_getElem (by omega)
      obtain ⟨z, hz, _, hw⟩ := DataW.trod_int hfu (h1.trans hys)
      simp only [List.cons.injEq, and_true] at hz
      refine ⟨z, ?_, hw⟩
      rw [← Go.Deep.add_add, hcell, List.getElem?_eq_getElem (by omega), hz]
    refine ⟨some a, m, (List.range len).map fun i => (List.range ks.length).map fun j => intCell (W.cell? (a.add (i * ks.length + j))), by simp, ?_, ?_, by simp; omega, hm⟩
    · intro hp
      simp only [List.length_map, List.length_range] at hp
      have k0 : ks[0]? = some ks[0] := List.getElem?_eq_getElem hk0
      obtain ⟨z, hz, _⟩ := cell 0 hp 0 _ k0
      obtain ⟨b, off, spot⟩ := a
      have hspot : spot = none := by simpa [Addr.add] using World.cell?_spot hz
      subst hspot
      refine ⟨b, off, rfl, fun i hil j k hj => ?_⟩
      simp only [List.length_map, List.length_range] at hil
      have hjl : j < ks.length := (List.getElem?_eq_some_iff.1 hj).1
      obtain ⟨z, hz, _⟩ := cell i hil j k hj
      rw [Nat.add_assoc, ← add_plain, hz]
      simp [List.getD, hil, hjl, hz, intCell]
    · intro r hr
      simp only [List.mem_map, List.mem_range] at hr
      obtain ⟨i, hil, rfl⟩ := hr
      refine ⟨by simp, fun j k hj => ?_⟩
      have hjl : j < ks.length := (List.getElem?_eq_some_iff.1 hj).1
      obtain ⟨z, hz, hw⟩ := cell i hil j k hj
      simpa [List.getD, hjl, hz, intCell] using hw
theorem readable_all {P : Program} {ts : List TypeId} (h : ts.all (fun t => P.readableRec t && decide (t < P.types.size)) = true) : ∀ t ∈ ts, P.readableRec t = true ∧ t < P.types.size := by
  intro t ht
  have := List.all_eq_true.1 h t ht
  simpa using this
end
end Go.Proofs.YtncnepmgmphanaaGreatDoor
