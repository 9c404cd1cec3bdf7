/- Plain laws about worlds that all texts of this seat use: which blocks a call may have changed, and what a block holds. No condition. -/
import Derived.WalkKit
import Derived.ProofKit
import Derived.Deep.Draws
import Derived.Lib.Hide
import Derived.Test.YtncnepmgmphanaaGreatDoorRows
import Derived.OpenShut
import Derived.SizedLaws
import Derived.Deep.Slices
import Derived.Deep.Fields
import Derived.ChangeSame
import Derived.Shelf.Strings.Builder1
import Derived.Shelf.Strings.BuilderF
import Derived.Shelf.Strings.BuilderK
import Derived.Shelf.Utf8.RuneCount
import Derived.Shelf.Strconv.Atoi
import Derived.Shelf.Strconv.Itoa0
import Derived.Shelf.Strconv.Itoa1
import Derived.Shelf.LaysM
import Derived.Shelf.Strconv.Itoa2
import Derived.Shelf.Strconv.Itoa3
import Derived.Shelf.Strconv.AtoiErrFast
import Derived.Shelf.Strconv.ParseIntEmpty
import Derived.Shelf.Strconv.AtoiFail
import Derived.Shelf.Strconv.Clone
import Derived.Shelf.Strconv.SyntaxError
import Derived.Shelf.LaysC
import Derived.Shelf.Strconv.ToError
import Derived.Shelf.Strconv.Lower
import Derived.Shelf.Strconv.ParseUint10
import Derived.Shelf.Strconv.ParseUint10Empty
import Derived.Shelf.Strconv.ParseUint10Any
import Derived.Shelf.Strconv.ParseInt10
import Derived.Shelf.Strconv.AtoiLong
import Derived.Shelf.Strconv.AtoiInnerAll
import Derived.Shelf.Strconv.RangeError
import Derived.Shelf.Strconv.ToErrorRange
import Derived.Shelf.Strconv.AtoiAll
import Derived.Shelf.Strconv.ErrVarAll
import Derived.Shelf.Strings.Search1
import Derived.Shelf.Strings.Search2
import Derived.Shelf.Strings.Search3
import Derived.Shelf.Strings.Cut
import Derived.Shelf.Strings.Count
import Derived.Shelf.Strings.Shaped
import Derived.Shelf.Strings.Split
import Derived.Shelf.Strings.SplitShaped
import Derived.Shelf.Unicode.Decode
import Derived.Shelf.Strings.RuneCount
import Derived.Test.YtncnepmgmphanaaGreatDoorProg
set_option linter.unusedVariables false
set_option linter.unusedSimpArgs false
set_option linter.unusedSectionVars false
namespace Go.Proofs.YtncnepmgmphanaaGreatDoor
section
theorem sI {α : Type} : (∀ (l : List α) (i : Nat) (a : α), l.toArray.setIfInBounds i a = (l.set i a).toArray) ∧ (∀ (x a : α) (l : List α), (x :: l).set 0 a = a :: l) ∧ ∀ (x a : α) (l : List α) (n : Nat), (x :: l).set (n + 1) a = x :: l.set n a := ⟨fun _ _ _ => List.setIfInBounds_toArray .., fun _ _ _ => rfl, fun _ _ _ _ => rfl⟩
open Go.RowKit
open Go.WideShapes (add_plain)
structure Only (S : List Nat) (w w' : World) : Prop where
 os : w'.os = w.os
 tape : w'.tape = w.tape
 output : w'.output = w.output
 size : w.heap.size ≤ w'.heap.size
 block : ∀ k, k < w.heap.size → k ∉ S → w'.heap[k]? = w.heap[k]?
theorem Only.refl (S : List Nat) (w : World) : Only S w w := ⟨rfl, rfl, rfl, Nat.le_refl _, fun _ _ _ => rfl⟩
theorem Only.trans {S T : List Nat} {a b c : World} (h : Only S a b) (k : Only T b c) (hs : ∀ t ∈ T, t ∈ S ∨ a.heap.size ≤ t) : Only S a c :=
 ⟨k.os.trans h.os, k.tape.trans h.tape, k.output.trans h.output, Nat.le_trans h.size k.size, fun i hi hn => by
   rw [k.block i (Nat.lt_of_lt_of_le hi h.size) (fun ht => by rcases hs i ht with h1 | h1; exact hn h1; omega), h.block i hi hn]⟩
theorem Only.bF {S : List Nat} {a b c : World} (h : Only S a b) (k : Only [] b c) : Only S a c := h.trans k (by simp)
theorem Only.afI {S : List Nat} {a b c : World} {t : Nat} (h : Only S a b) (k : Only [t] b c) (ht : a.heap.size ≤ t) : Only S a c := h.trans k (by simpa using Or.inr ht)
theorem Only.below {S : List Nat} {a b : World} (h : Only S a b) (hs : ∀ t ∈ S, a.heap.size ≤ t) : Below a.heap.size a b :=
 ⟨h.os, h.tape, h.output, h.size, fun i hi => h.block i hi fun ht => by have := hs i ht; omega⟩
theorem Only.drew {S : List Nat} {a b : World} (h : Only S a b) : Only S a b.drew := ⟨h.os, h.tape, h.output, h.size, h.block⟩
theorem Only.drewN {S : List Nat} {a b : World} (h : Only S a b) (n : Nat) : Only S a (b.drewN n) := ⟨h.os, h.tape, h.output, h.size, h.block⟩
theorem Only.alloc {S : List Nat} {a b : World} (h : Only S a b) (o : Obj) : Only S a (b.alloc o) :=
 ⟨h.os, h.tape, h.output, Nat.le_trans h.size (by simp), fun k hk hn => by rw [Below.heap_alloc _ _ _ (Nat.lt_of_lt_of_le hk h.size)]; exact h.block k hk hn⟩
theorem Only.setCell {S : List Nat} {a b : World} (h : Only S a b) {p : Addr} (hp : p.block ∈ S ∨ a.heap.size ≤ p.block) (u : Value) : Only S a (b.setCell p u) :=
 ⟨h.os, h.tape, h.output, Nat.le_trans h.size (by simp [World.setCell]), fun k hk hn => by
   rw [Below.heap_setCell _ _ _ _ (fun e => by subst e; rcases hp with h1 | h1; exact hn h1; omega)]; exact h.block k hk hn⟩
theorem Only.grown {S : List Nat} {a w w' : World} {row : Option Nat} (h : Only S a w) (hg : w.grownBy w' row) (hr : ∀ k, row = some k → k ∈ S ∨ a.heap.size ≤ k) : Only S a w' :=
 ⟨hg.os.trans h.os, hg.tape.trans h.tape, hg.output.trans h.output, Nat.le_trans h.size hg.size, fun k hk hn => by
   rw [hg.block k (Nat.lt_of_lt_of_le hk h.size) (fun e => by rcases hr k e.symm with h1 | h1; exact hn h1; omega)]; exact h.block k hk hn⟩
theorem Only.keep {S : List Nat} {a b : World} {k : Nat} {o : Obj} (h : Only S a b) (ho : a.heap[k]? = some o) (hk : k ∉ S) : b.heap[k]? = some o := by
 rw [h.block k (by rcases Nat.lt_or_ge k a.heap.size with h1 | h1; exact h1; simp [Array.getElem?_eq_none h1] at ho) hk, ho]
theorem Only.cell {S : List Nat} {a b : World} (h : Only S a b) {p : Addr} (hp : p.block < a.heap.size) (hn : p.block ∉ S) : b.cell? p = a.cell? p :=
 World.cell?_of_block (w := a) (h.block p.block hp hn)
theorem Only.keepCell {S : List Nat} {a b : World} (h : Only S a b) {p : Addr} {v : Value} (hc : a.cell? p = some v) (hn : p.block ∉ S) : b.cell? p = some v := by
 rw [h.cell ?_ hn, hc]
 rcases Nat.lt_or_ge p.block a.heap.size with h1 | h1
 · exact h1
 · simp [World.cell?, Array.getElem?_eq_none h1] at hc
theorem aK {w : World} {b : Nat} {o : Obj} (h : w.heap[b]? = some o) : b < w.heap.size := by
 rcases Nat.lt_or_ge b w.heap.size with h1 | h1
 · exact h1
 · simp [Array.getElem?_eq_none h1] at h
theorem lt_of_cell {w : World} {p : Addr} {v : Value} (h : w.cell? p = some v) : p.block < w.heap.size := by
 rcases Nat.lt_or_ge p.block w.heap.size with h1 | h1
 · exact h1
 · simp [World.cell?, Array.getElem?_eq_none h1] at h
theorem aa {w : World} {b : Nat} {c : Array Value} {T : TypeId} {f : Nat × Nat} (h : w.heap[b]? = some (.cells c T f)) (i : Nat) : w.cell? ⟨b, i, none⟩ = c[i]? := by
 simp [World.cell?, h]
theorem ay {w : World} {b : Nat} {c : Array Value} {T : TypeId} (h : w.heap[b]? = some (.cells c T (0, 0))) (i : Nat) : w.frozen? ⟨b, i, none⟩ = false := by
 simp [World.frozen?, h]
theorem aR {w : World} {b : Nat} {c : Array Value} {T : TypeId} {f : Nat × Nat} (h : w.heap[b]? = some (.cells c T f)) (i : Nat) (v : Value) :
   (w.setCell ⟨b, i, none⟩ v).heap[b]? = some (.cells (c.setIfInBounds i v) T f) := by
 simp only [World.setCell, Array.getElem?_modify, ↓reduceIte, h, Option.map_some, Option.isSome_none, Bool.false_eq_true]
theorem bM {w : World} {p : Addr} {b : Nat} (hne : b ≠ p.block) (v : Value) : (w.setCell p v).heap[b]? = w.heap[b]? := Below.heap_setCell _ _ _ _ hne
theorem cO {w : World} {b : Nat} (h : b < w.heap.size) (o : Obj) : (w.alloc o).heap[b]? = w.heap[b]? := Below.heap_alloc _ _ _ h
theorem blk_alloc_new (w : World) (o : Obj) : (w.alloc o).heap[w.heap.size]? = some o := by
 show (w.heap.push o)[w.heap.size]? = _
 simp
def iG (w : World) (ao : Option Addr) (xs : List Value) : Prop :=
 0 < xs.length → ∃ b off, ao = some ⟨b, off, none⟩ ∧ ∀ j (h : j < xs.length), w.cell? ⟨b, off + j, none⟩ = some xs[j]
theorem iG.nil (w : World) (ao : Option Addr) : iG w ao [] := fun h => by simp at h
theorem iG.ints {w : World} {ao : Option Addr} {k : IntKind} {zs : List Int} (h : iG w ao (zs.map (.int k))) (hp : 0 < zs.length) :
   ∃ b off, ao = some ⟨b, off, none⟩ ∧ ∀ j, j < zs.length → w.cell? ⟨b, off + j, none⟩ = some (.int k (zs.getD j 0)) := by
 obtain ⟨b, off, e, hc⟩ := h (by simpa using hp)
 exact ⟨b, off, e, fun j hj => by rw [hc j (by simpa using hj)]; simp [List.getD, List.getElem?_eq_getElem hj]⟩
theorem iG.keep {S : List Nat} {a b : World} {ao : Option Addr} {xs : List Value} (h : iG a ao xs) (ho : Only S a b) (hn : ∀ p, ao = some p → p.block ∉ S) : iG b ao xs := by
 intro hp
 obtain ⟨bl, off, e, hc⟩ := h hp
 exact ⟨bl, off, e, fun j hj => ho.keepCell (hc j hj) (by have := hn _ e; exact this)⟩
theorem iG.jJ {a b : World} {ao : Option Addr} {xs : List Value} (h : iG a ao xs) (ho : Only [] a b) : iG b ao xs := h.keep ho (by simp)
def amK (w : World) (ao : Option Addr) (ks : List IntKind) (rows : List (List Int)) : Prop :=
 0 < rows.length → ∃ b off, ao = some ⟨b, off, none⟩ ∧ ∀ i, i < rows.length → ∀ j k, ks[j]? = some k → w.cell? ⟨b, off + i * ks.length + j, none⟩ = some (.int k ((rows.getD i []).getD j 0))
def am9 (w : World) (v : Value) (b : Nat) (T : TypeId) (xs : List Value) : Prop :=
 ∃ a cap, v = .slice (some a) xs.length cap ∧ xs.length ≤ cap ∧ cap ≤ 9223372036854775807 ∧
   (0 < xs.length → a = ⟨b, 0, none⟩ ∧ ∃ arr, w.heap[b]? = some (.cells arr T (0, 0)) ∧ arr.toList.take xs.length = xs)
theorem run_callFunc_enter {P : Program} {f : FuncId} {fn : Func} (hf : P.funcs[f]? = some fn) (hname : (fn.name == "runtime.NumGoroutine") = false) (hb : fn.body.isNone = false) (args : Array Value) (w : World) :
   (callFunc f args).run P w = .ok (.enter f args) w := by
 have h1 : ¬ fn.name = "runtime.NumGoroutine" := by simpa using hname
 have h2 : ¬ fn.body = none := by intro h; rw [h] at hb; simp at hb
 simp [callFunc, hf, h1, h2]
theorem wf_u8 {n : Int} (h : (Lit.int .u8 n).wf = true) : 0 ≤ n ∧ n ≤ 255 := by
 simpa [Lit.wf, IntKind.min, IntKind.max, IntKind.signed, IntKind.bits] using h
theorem oD {k : IntKind} {a b : Int} (h : a = b) : Ending.returned (.int k a) = .returned (.int k b) := by rw [h]
theorem vV {a b : Bool} (h : a = b) : Ending.returned (.bool a) = .returned (.bool b) := by rw [h]
end
section
open Go.ChangeShapes Go.WideShapes Go.ChangeAt Go.RowKit
theorem own : ownKnob Tryz.prog.godebug = none := by kernel_rfl
theorem laidOut : laidOutB Tryz.prog = true := by kernel_rfl
section
variable {H : Type} {enc : TypeId × Value → H}
theorem KY {P : Program} (hl : laidOutB P = true) {W W' : World} (hb : Below W.heap.size W W') : ∀ {ts : List TypeId} {vs : List Value} {ds : List (DataW H)} {ps : List MemPlace},
   DataW.TrodAll enc P W 0 (fun _ => true) true ts vs ds ps → (∀ t ∈ ts, P.readableRec t = true ∧ t < P.types.size) → (∀ x ∈ ps, x.block < W.heap.size) →
   DataW.TrodAll enc P W' 0 (fun b => decide (b < W.heap.size)) true ts vs ds ps := by
 intro ts
 induction ts with
 | nil =>
   intro vs ds ps h _ _
   cases vs <;> cases ds <;> simp [DataW.TrodAll] at h ⊢
   exact h
 | cons t ts ih =>
   intro vs ds ps h hr hlt
   obtain ⟨v, vs', d, ds', p, q, rfl, rfl, rfl, h1, h2⟩ := trodAll_cons h
   exact trodAll_cons_mk (Below.trod hl (hr t (by simp)).1 (hr t (by simp)).2 h1 hb (fun x hx => hlt x (by simp [hx])))
     (ih h2 (fun t ht => hr t (by simp [ht])) (fun x hx => hlt x (by simp [hx])))
theorem trodAll_length {P : Program} {W : World} {base : Nat} {spare : Nat → Bool} {held : Bool} : ∀ {ts : List TypeId} {vs : List Value} {ds : List (DataW H)} {ps : List MemPlace},
   DataW.TrodAll enc P W base spare held ts vs ds ps → ds.length = ts.length := by
 intro ts
 induction ts with
 | nil => intro vs ds ps h; cases vs <;> cases ds <;> simp [DataW.TrodAll] at h ⊢
 | cons t ts ih =>
   intro vs ds ps h
   obtain ⟨v, vs', d, ds', p, q, rfl, rfl, rfl, h1, h2⟩ := trodAll_cons h
   simp [ih h2]
theorem Bi {P : Program} {W : World} {base b0 : Nat} {t e : TypeId} {k : IntKind} {v : Value} {d : DataW H} {ps : List MemPlace} (ht : P.underlying t = some (.slice e)) (he : P.underlying e = some (.int k)) (hc : P.cellsOf e = 1)
   (hok : Value.okWide P W .any b0 t v) (h : DataW.Trod enc P W base (fun _ => true) true t v d ps) :
   ∃ (ao : Option Addr) (cap : Nat) (zs : List Int), v = .slice ao zs.length cap ∧ iG W ao (zs.map (.int k)) ∧ (∀ z ∈ zs, (Lit.int k z).wf = true) ∧ zs.length ≤ cap ∧ cap ≤ maxLen := by
 obtain ⟨a0, len, cap, rfl⟩ := okWide_slice ht hok
 obtain ⟨fuel, hf⟩ := h
 rcases open_ints ht he hc hf with ⟨hcs, _⟩ | ⟨a, len', cap', zs, hcs, _, hl, hm, hz, _, hcell, hwz⟩
 · simp [Value.cells] at hcs
   obtain ⟨rfl, rfl, rfl⟩ := hcs
   exact ⟨none, 0, [], rfl, iG.nil _ _, by simp, by simp, by simp⟩
 · simp [Value.cells] at hcs
   obtain ⟨rfl, rfl, rfl⟩ := hcs
   simp only [if_true] at hz
   have e1 : (zs.take len).length = len := by simp; omega
   refine ⟨some a, cap, zs.take len, by rw [e1], ?_, fun z TY => hwz z (List.mem_of_mem_take TY), by omega, hm⟩
   intro hp
   rw [List.length_map, e1] at hp
   obtain ⟨b, off, rfl, hcl⟩ := ints_at hcell (by omega)
   refine ⟨b, off, rfl, fun j hj => ?_⟩
   rw [List.length_map, e1] at hj
   rw [hcl j (by omega)]
   simp [List.getD, List.getElem?_eq_getElem (show j < zs.length by omega)]
theorem PW {P : Program} {W : World} {base b0 : Nat} {t e : TypeId} {k : IntKind} {v : Value} {d : DataW H} {ps : List MemPlace} (ht : P.underlying t = some (.slice e)) (he : P.underlying e = some (.int k)) (hc : P.cellsOf e = 1)
   (hok : Value.okWide P W .any b0 t v) (h : DataW.Trod enc P W base (fun _ => true) true t v d ps) :
   ∃ (ao : Option Addr) (cap : Nat) (zs : List Int), v = .slice ao zs.length cap ∧ iG W ao (zs.map (.int k)) ∧ (∀ z ∈ zs, (Lit.int k z).wf = true) ∧ zs.length ≤ cap ∧ cap ≤ maxLen ∧ (ao = none → zs = [] ∧ cap = 0) := by
 obtain ⟨ao, cap, zs, rfl, h1, h2, h3, h4⟩ := Bi ht he hc hok h
 refine ⟨ao, cap, zs, rfl, h1, h2, h3, h4, ?_⟩
 rintro rfl
 obtain ⟨fuel, hf⟩ := h
 rcases open_ints ht he hc hf with ⟨hcs, _⟩ | ⟨a, len', cap', zs', hcs, _⟩
 · simp [Value.cells] at hcs
   exact ⟨hcs.1, hcs.2⟩
 · simp [Value.cells] at hcs
theorem LV {P : Program} {ts : List TypeId} (h : ts.all (fun t => P.readableRec t && decide (t < P.types.size)) = true) : ∀ t ∈ ts, P.readableRec t = true ∧ t < P.types.size := by
 intro t ht
 have := List.all_eq_true.1 h t ht
 simpa using this
end
end
end Go.Proofs.YtncnepmgmphanaaGreatDoor

namespace Go.Proofs
open Go.Shelf
def Tryz.lays169_ren : Go.Shelf.Ren := ⟨fun | 169 => 30 | n => n, fun | 70 => 72 | 9 => 9 | 0 => 0 | 72 => 74 | 37 => 23 | 127 => 102 | 3 => 3 | 5 => 5 | n => n, fun | n => n⟩
theorem Tryz.lays169 : Go.Proofs.Lays.n169 Tryz.prog Tryz.lays169_ren := {
 mixed := by kernel_rfl
 f169 := Tryz.func30.trans (congrArg some (by kernel_rfl))
 t0 := Tryz.underlying0
 a0 := Tryz.isAgg0
 z0 := Tryz.sizeOf0
 v0 := Tryz.zeroValue0
 t3 := Tryz.underlying3
 a3 := Tryz.isAgg3
 z3 := Tryz.sizeOf3
 v3 := Tryz.zeroValue3
 t9 := Tryz.underlying9
 a9 := Tryz.isAgg9
 z9 := Tryz.sizeOf9
 v9 := Tryz.zeroValue9
 t37 := Tryz.underlying23
 a37 := Tryz.isAgg23
 z37 := Tryz.sizeOf23
 v37 := Tryz.zeroValue23
 t70 := Tryz.underlying72
 a70 := Tryz.isAgg72
 z70 := Tryz.sizeOf72
 v70 := Tryz.zeroValue72
 t72 := Tryz.underlying74
 a72 := Tryz.isAgg74
 z72 := Tryz.sizeOf74
 v72 := Tryz.zeroValue74
 t127 := Tryz.underlying102
 a127 := Tryz.isAgg102
 z127 := Tryz.sizeOf102
 v127 := Tryz.zeroValue102 }
theorem Tryz.Builder_Extra_169 : Builder.Extra Tryz.prog Tryz.lays169_ren := {
 sizeBuilder := by kernel_rfl
 liesBuilder := by kernel_rfl
 t5 := Tryz.underlying5
 a5 := Tryz.isAgg5
 z5 := Tryz.sizeOf5
 v5 := Tryz.zeroValue5
 infoByte := by kernel_rfl
 cellsByte := by kernel_rfl
 sizeByte := by kernel_rfl
 neB5 := by decide }
open Go.RowKit in
theorem Tryz.Builder_String_any (B b : Nat) (l : List UInt8) (w : World) (h : Lib.IsBuilder 74 5 B b (Lib.byteCells l) w) (hBw : B ≤ w.heap.size) :
   Calls Tryz.prog 30 #[.pointer (some ⟨b, 0, none⟩)] w fun e w' => e = .returned (.string ⟨l.toArray⟩) ∧ Below B w w' := Any.Builder_String_any Tryz.lays169 Tryz.Builder_Extra_169 B b l w h hBw
def Tryz.laysM171_ren : Go.Shelf.Ren := ⟨fun | 171 => 44 | 243 => 58 | 246 => 69 | 283 => 119 | 284 => 120 | 285 => 121 | 286 => 122 | 129 => 163 | 317 => 162 | 318 => 164 | 319 => 165 | 320 => 166 | 337 => 173 | 338 => 174 | n => n, fun | 3 => 3 | 9 => 9 | 2 => 2 | 4 => 4 | 171 => 173 | 0 => 0 | 53 => 59 | 37 => 23 | 5 => 5 | 173 => 175 | 212 => 207 | 51 => 177 | 20 => 20 | 213 => 208 | 46 => 151 | 232 => 223 | 233 => 224 | n => n, fun | 17 => 3 | 18 => 6 | 19 => 7 | n => n⟩
theorem Tryz.laysM171 : Go.Proofs.LaysM.n171 Tryz.prog Tryz.laysM171_ren := {
 mixed := by kernel_rfl
 f129 := Tryz.func163.trans (congrArg some (by kernel_rfl))
 f171 := Tryz.func44.trans (congrArg some (by kernel_rfl))
 f243 := Tryz.func58.trans (congrArg some (by kernel_rfl))
 f246 := Tryz.func69.trans (congrArg some (by kernel_rfl))
 f283 := Tryz.func119.trans (congrArg some (by kernel_rfl))
 f284 := Tryz.func120.trans (congrArg some (by kernel_rfl))
 f285 := Tryz.func121.trans (congrArg some (by kernel_rfl))
 f286 := Tryz.func122.trans (congrArg some (by kernel_rfl))
 f317 := Tryz.func162.trans (congrArg some (by kernel_rfl))
 f318 := Tryz.func164.trans (congrArg some (by kernel_rfl))
 f319 := Tryz.func165.trans (congrArg some (by kernel_rfl))
 f320 := Tryz.func166.trans (congrArg some (by kernel_rfl))
 f337 := Tryz.func173.trans (congrArg some (by kernel_rfl))
 f338 := Tryz.func174.trans (congrArg some (by kernel_rfl))
 t0 := Tryz.underlying0
 a0 := Tryz.isAgg0
 z0 := Tryz.sizeOf0
 v0 := Tryz.zeroValue0
 t2 := Tryz.underlying2
 a2 := Tryz.isAgg2
 z2 := Tryz.sizeOf2
 v2 := Tryz.zeroValue2
 t3 := Tryz.underlying3
 a3 := Tryz.isAgg3
 z3 := Tryz.sizeOf3
 v3 := Tryz.zeroValue3
 t4 := Tryz.underlying4
 a4 := Tryz.isAgg4
 z4 := Tryz.sizeOf4
 v4 := Tryz.zeroValue4
 t5 := Tryz.underlying5
 a5 := Tryz.isAgg5
 z5 := Tryz.sizeOf5
 v5 := Tryz.zeroValue5
 t9 := Tryz.underlying9
 a9 := Tryz.isAgg9
 z9 := Tryz.sizeOf9
 v9 := Tryz.zeroValue9
 t20 := Tryz.underlying20
 a20 := Tryz.isAgg20
 z20 := Tryz.sizeOf20
 v20 := Tryz.zeroValue20
 t37 := Tryz.underlying23
 a37 := Tryz.isAgg23
 z37 := Tryz.sizeOf23
 v37 := Tryz.zeroValue23
 t46 := Tryz.underlying151
 a46 := Tryz.isAgg151
 z46 := Tryz.sizeOf151
 v46 := Tryz.zeroValue151
 t51 := Tryz.underlying177
 a51 := Tryz.isAgg177
 z51 := Tryz.sizeOf177
 v51 := Tryz.zeroValue177
 t53 := Tryz.underlying59
 a53 := Tryz.isAgg59
 z53 := Tryz.sizeOf59
 v53 := Tryz.zeroValue59
 t171 := Tryz.underlying173
 a171 := Tryz.isAgg173
 z171 := Tryz.sizeOf173
 v171 := Tryz.zeroValue173
 t173 := Tryz.underlying175
 a173 := Tryz.isAgg175
 z173 := Tryz.sizeOf175
 v173 := Tryz.zeroValue175
 t212 := Tryz.underlying207
 a212 := Tryz.isAgg207
 z212 := Tryz.sizeOf207
 v212 := Tryz.zeroValue207
 t213 := Tryz.underlying208
 a213 := Tryz.isAgg208
 z213 := Tryz.sizeOf208
 t232 := Tryz.underlying223
 a232 := Tryz.isAgg223
 z232 := Tryz.sizeOf223
 v232 := Tryz.zeroValue223
 t233 := Tryz.underlying224
 a233 := Tryz.isAgg224
 z233 := Tryz.sizeOf224
 v233 := Tryz.zeroValue224
 g17 := by kernel_rfl
 g18 := by kernel_rfl
 g19 := by kernel_rfl
 i0 := by kernel_rfl
 i2 := by kernel_rfl
 i3 := by kernel_rfl
 i4 := by kernel_rfl
 i5 := by kernel_rfl
 i9 := by kernel_rfl
 i20 := by kernel_rfl
 i37 := by kernel_rfl
 i46 := by kernel_rfl
 i51 := by kernel_rfl
 i53 := by kernel_rfl
 i171 := by kernel_rfl
 i173 := by kernel_rfl
 i212 := by kernel_rfl
 i232 := by kernel_rfl
 i233 := by kernel_rfl
 m17 := by kernel_rfl
 m18 := by kernel_rfl
 m19 := by kernel_rfl }
open Go.RowKit Go.Sort Go.Lib in
theorem Tryz.strconv_Itoa (n : Int) (h0 : -9223372036854775808 ≤ n) (h1 : n ≤ 9223372036854775807) (w : World) (htab : Lib.TabIs Tryz.prog w "internal/strconv.uint64pow10" .u64 Lib.pow10Tab) :
   Calls Tryz.prog 44 #[.int .i64 n] w fun e w' => e = .returned (.string ⟨(Lib.itoa n).toArray⟩) ∧ ∃ k os, w' = grow (w.drewN k) os := Any.strconv_Itoa Tryz.laysM171 n h0 h1 w htab
def Tryz.laysC172_ren : Go.Shelf.Ren := ⟨fun | 172 => 50 | 244 => 61 | 245 => 62 | 247 => 77 | 279 => 78 | 280 => 79 | 281 => 80 | 282 => 81 | 287 => 128 | 316 => 129 | 171 => 44 | 205 => 130 | 321 => 168 | 322 => 169 | 243 => 58 | 246 => 69 | 283 => 119 | 284 => 120 | 285 => 121 | 286 => 122 | 129 => 163 | 317 => 162 | 318 => 164 | 319 => 165 | 320 => 166 | 337 => 173 | 338 => 174 | n => n, fun | 9 => 9 | 3 => 3 | 75 => 77 | 76 => 78 | 4 => 4 | 5 => 5 | 167 => 153 | 37 => 23 | 0 => 0 | 85 => 154 | 2 => 2 | 168 => 156 | 53 => 59 | 175 => 183 | 46 => 151 | 210 => 187 | 127 => 102 | 145 => 214 | 143 => 212 | 21 => 21 | 171 => 173 | 173 => 175 | 212 => 207 | 51 => 177 | 20 => 20 | 213 => 208 | 232 => 223 | 233 => 224 | 80 => 81 | n => n, fun | 15 => 1 | 16 => 2 | 17 => 3 | 18 => 6 | 19 => 7 | n => n⟩
theorem Tryz.laysC172 : Go.Proofs.LaysC.n172 Tryz.prog Tryz.laysC172_ren := {
 mixed := by kernel_rfl
 f129 := Tryz.func163.trans (congrArg some (by kernel_rfl))
 f171 := Tryz.func44.trans (congrArg some (by kernel_rfl))
 f172 := Tryz.func50.trans (congrArg some (by kernel_rfl))
 f205 := Tryz.func130.trans (congrArg some (by kernel_rfl))
 f243 := Tryz.func58.trans (congrArg some (by kernel_rfl))
 f244 := Tryz.func61.trans (congrArg some (by kernel_rfl))
 f245 := Tryz.func62.trans (congrArg some (by kernel_rfl))
 f246 := Tryz.func69.trans (congrArg some (by kernel_rfl))
 f247 := Tryz.func77.trans (congrArg some (by kernel_rfl))
 f279 := Tryz.func78.trans (congrArg some (by kernel_rfl))
 f280 := Tryz.func79.trans (congrArg some (by kernel_rfl))
 f281 := Tryz.func80.trans (congrArg some (by kernel_rfl))
 f282 := Tryz.func81.trans (congrArg some (by kernel_rfl))
 f283 := Tryz.func119.trans (congrArg some (by kernel_rfl))
 f284 := Tryz.func120.trans (congrArg some (by kernel_rfl))
 f285 := Tryz.func121.trans (congrArg some (by kernel_rfl))
 f286 := Tryz.func122.trans (congrArg some (by kernel_rfl))
 f287 := Tryz.func128.trans (congrArg some (by kernel_rfl))
 f316 := Tryz.func129.trans (congrArg some (by kernel_rfl))
 f317 := Tryz.func162.trans (congrArg some (by kernel_rfl))
 f318 := Tryz.func164.trans (congrArg some (by kernel_rfl))
 f319 := Tryz.func165.trans (congrArg some (by kernel_rfl))
 f320 := Tryz.func166.trans (congrArg some (by kernel_rfl))
 f321 := Tryz.func168.trans (congrArg some (by kernel_rfl))
 f322 := Tryz.func169.trans (congrArg some (by kernel_rfl))
 f337 := Tryz.func173.trans (congrArg some (by kernel_rfl))
 f338 := Tryz.func174.trans (congrArg some (by kernel_rfl))
 t0 := Tryz.underlying0
 a0 := Tryz.isAgg0
 z0 := Tryz.sizeOf0
 v0 := Tryz.zeroValue0
 t2 := Tryz.underlying2
 a2 := Tryz.isAgg2
 z2 := Tryz.sizeOf2
 v2 := Tryz.zeroValue2
 t3 := Tryz.underlying3
 a3 := Tryz.isAgg3
 z3 := Tryz.sizeOf3
 v3 := Tryz.zeroValue3
 t4 := Tryz.underlying4
 a4 := Tryz.isAgg4
 z4 := Tryz.sizeOf4
 v4 := Tryz.zeroValue4
 t5 := Tryz.underlying5
 a5 := Tryz.isAgg5
 z5 := Tryz.sizeOf5
 v5 := Tryz.zeroValue5
 t9 := Tryz.underlying9
 a9 := Tryz.isAgg9
 z9 := Tryz.sizeOf9
 v9 := Tryz.zeroValue9
 t20 := Tryz.underlying20
 a20 := Tryz.isAgg20
 z20 := Tryz.sizeOf20
 v20 := Tryz.zeroValue20
 t21 := Tryz.underlying21
 a21 := Tryz.isAgg21
 z21 := Tryz.sizeOf21
 v21 := Tryz.zeroValue21
 t37 := Tryz.underlying23
 a37 := Tryz.isAgg23
 z37 := Tryz.sizeOf23
 v37 := Tryz.zeroValue23
 t46 := Tryz.underlying151
 a46 := Tryz.isAgg151
 z46 := Tryz.sizeOf151
 v46 := Tryz.zeroValue151
 t51 := Tryz.underlying177
 a51 := Tryz.isAgg177
 z51 := Tryz.sizeOf177
 v51 := Tryz.zeroValue177
 t53 := Tryz.underlying59
 a53 := Tryz.isAgg59
 z53 := Tryz.sizeOf59
 v53 := Tryz.zeroValue59
 t75 := Tryz.underlying77
 a75 := Tryz.isAgg77
 z75 := Tryz.sizeOf77
 v75 := Tryz.zeroValue77
 t76 := Tryz.underlying78
 a76 := Tryz.isAgg78
 z76 := Tryz.sizeOf78
 v76 := Tryz.zeroValue78
 t85 := Tryz.underlying154
 a85 := Tryz.isAgg154
 z85 := Tryz.sizeOf154
 v85 := Tryz.zeroValue154
 t127 := Tryz.underlying102
 a127 := Tryz.isAgg102
 z127 := Tryz.sizeOf102
 v127 := Tryz.zeroValue102
 t143 := Tryz.underlying212
 a143 := Tryz.isAgg212
 z143 := Tryz.sizeOf212
 v143 := Tryz.zeroValue212
 t145 := Tryz.underlying214
 a145 := Tryz.isAgg214
 z145 := Tryz.sizeOf214
 v145 := Tryz.zeroValue214
 t167 := Tryz.underlying153
 a167 := Tryz.isAgg153
 z167 := Tryz.sizeOf153
 v167 := Tryz.zeroValue153
 t168 := Tryz.underlying156
 a168 := Tryz.isAgg156
 z168 := Tryz.sizeOf156
 v168 := Tryz.zeroValue156
 t171 := Tryz.underlying173
 a171 := Tryz.isAgg173
 z171 := Tryz.sizeOf173
 v171 := Tryz.zeroValue173
 t173 := Tryz.underlying175
 a173 := Tryz.isAgg175
 z173 := Tryz.sizeOf175
 v173 := Tryz.zeroValue175
 t175 := Tryz.underlying183
 a175 := Tryz.isAgg183
 z175 := Tryz.sizeOf183
 v175 := Tryz.zeroValue183
 t210 := Tryz.underlying187
 a210 := Tryz.isAgg187
 z210 := Tryz.sizeOf187
 v210 := Tryz.zeroValue187
 t212 := Tryz.underlying207
 a212 := Tryz.isAgg207
 z212 := Tryz.sizeOf207
 v212 := Tryz.zeroValue207
 t213 := Tryz.underlying208
 a213 := Tryz.isAgg208
 z213 := Tryz.sizeOf208
 t232 := Tryz.underlying223
 a232 := Tryz.isAgg223
 z232 := Tryz.sizeOf223
 v232 := Tryz.zeroValue223
 t233 := Tryz.underlying224
 a233 := Tryz.isAgg224
 z233 := Tryz.sizeOf224
 v233 := Tryz.zeroValue224
 g15 := by kernel_rfl
 g16 := by kernel_rfl
 g17 := by kernel_rfl
 g18 := by kernel_rfl
 g19 := by kernel_rfl
 t80 := Tryz.underlying81
 a80 := Tryz.isAgg81
 z80 := Tryz.sizeOf81
 v80 := Tryz.zeroValue81
 i0 := by kernel_rfl
 i2 := by kernel_rfl
 i3 := by kernel_rfl
 i4 := by kernel_rfl
 i5 := by kernel_rfl
 i9 := by kernel_rfl
 i20 := by kernel_rfl
 i21 := by kernel_rfl
 i37 := by kernel_rfl
 i46 := by kernel_rfl
 i51 := by kernel_rfl
 i53 := by kernel_rfl
 i75 := by kernel_rfl
 i76 := by kernel_rfl
 i80 := by kernel_rfl
 i85 := by kernel_rfl
 i127 := by kernel_rfl
 i143 := by kernel_rfl
 i145 := by kernel_rfl
 i167 := by kernel_rfl
 i168 := by kernel_rfl
 i171 := by kernel_rfl
 i173 := by kernel_rfl
 i175 := by kernel_rfl
 i210 := by kernel_rfl
 i212 := by kernel_rfl
 i232 := by kernel_rfl
 i233 := by kernel_rfl
 m15 := by kernel_rfl
 m16 := by kernel_rfl
 m17 := by kernel_rfl
 m18 := by kernel_rfl
 m19 := by kernel_rfl
 c0 := by kernel_rfl
 c2 := by kernel_rfl
 c3 := by kernel_rfl
 c4 := by kernel_rfl
 c5 := by kernel_rfl
 c9 := by kernel_rfl
 c20 := by kernel_rfl
 c21 := by kernel_rfl
 c37 := by kernel_rfl
 c46 := by kernel_rfl
 c51 := by kernel_rfl
 c53 := by kernel_rfl
 c75 := by kernel_rfl
 c76 := by kernel_rfl
 c80 := by kernel_rfl
 c85 := by kernel_rfl
 c127 := by kernel_rfl
 c143 := by kernel_rfl
 c145 := by kernel_rfl
 c167 := by kernel_rfl
 c168 := by kernel_rfl
 c171 := by kernel_rfl
 c173 := by kernel_rfl
 c175 := by kernel_rfl
 c210 := by kernel_rfl
 c212 := by kernel_rfl
 c213 := by kernel_rfl
 c232 := by kernel_rfl
 c233 := by kernel_rfl }
open Go.RowKit in
theorem Tryz.strconv_Atoi_ok (s : ByteArray) (hmax : s.size ≤ 9223372036854775806) (v : Int) (h : Lib.atoiAll s.data.toList = .ok v) (w : World) :
   Calls Tryz.prog 50 #[.string s] w fun e w' => e = .returned (.tuple #[.int .i64 v, .nilIface]) ∧ (w' = w ∨ ∃ t, w' = Lib.bytesWorld w 5 t) := Any.strconv_Atoi_ok Tryz.laysC172 s hmax v h w
open Go.RowKit in
theorem Tryz.strconv_Atoi_syntax (s : ByteArray) (hlim : s.size ≤ 281474976710656) (h : Lib.atoiAll s.data.toList = .«syntax») (ev : Value) (w : World) (hv : w.cell? ⟨1, 0, none⟩ = some ev) (hev : ev = .nilIface ∨ ∃ te pe, ev = .iface te pe) :
   Calls Tryz.prog 50 #[.string s] w fun e w' => ∃ N, e = .returned (.tuple #[.int .i64 (0), .iface 156 (.pointer (some ⟨N, 0, none⟩))]) ∧ w.heap.size ≤ N ∧ w'.heap[N]? = some (.cells #[.string ⟨#[65, 116, 111, 105]⟩, .string s, ev] 187 (0, 0)) ∧ Below w.heap.size w w' := Any.strconv_Atoi_syntax Tryz.laysC172 s hlim h ev w hv hev
open Go.RowKit in
theorem Tryz.strconv_Atoi_range (s : ByteArray) (hlim : s.size ≤ 281474976710656) (h : Lib.atoiAll s.data.toList = .range) (ev : Value) (w : World) (hv : w.cell? ⟨2, 0, none⟩ = some ev) (hev : ev = .nilIface ∨ ∃ te pe, ev = .iface te pe) :
   Calls Tryz.prog 50 #[.string s] w fun e w' => ∃ N, e = .returned (.tuple #[.int .i64 (Lib.atoiSat s.data.toList), .iface 156 (.pointer (some ⟨N, 0, none⟩))]) ∧ w.heap.size ≤ N ∧ w'.heap[N]? = some (.cells #[.string ⟨#[65, 116, 111, 105]⟩, .string s, ev] 187 (0, 0)) ∧ Below w.heap.size w w' := Any.strconv_Atoi_range Tryz.laysC172 s hlim h ev w hv hev
def Tryz.lays145_ren : Go.Shelf.Ren := ⟨fun | 145 => 33 | 220 => 48 | 219 => 59 | 217 => 70 | 225 => 71 | 224 => 72 | 267 => 73 | 266 => 123 | 314 => 124 | n => n, fun | 9 => 9 | 4 => 4 | 59 => 82 | 3 => 3 | 5 => 5 | 46 => 151 | 146 => 178 | 51 => 177 | n => n, fun | 1 => 0 | n => n⟩
theorem Tryz.lays145 : Go.Proofs.Lays.n145 Tryz.prog Tryz.lays145_ren := {
 mixed := by kernel_rfl
 f145 := Tryz.func33.trans (congrArg some (by kernel_rfl))
 f217 := Tryz.func70.trans (congrArg some (by kernel_rfl))
 f219 := Tryz.func59.trans (congrArg some (by kernel_rfl))
 f220 := Tryz.func48.trans (congrArg some (by kernel_rfl))
 f224 := Tryz.func72.trans (congrArg some (by kernel_rfl))
 f225 := Tryz.func71.trans (congrArg some (by kernel_rfl))
 f266 := Tryz.func123.trans (congrArg some (by kernel_rfl))
 f267 := Tryz.func73.trans (congrArg some (by kernel_rfl))
 f314 := Tryz.func124.trans (congrArg some (by kernel_rfl))
 t3 := Tryz.underlying3
 a3 := Tryz.isAgg3
 z3 := Tryz.sizeOf3
 v3 := Tryz.zeroValue3
 t4 := Tryz.underlying4
 a4 := Tryz.isAgg4
 z4 := Tryz.sizeOf4
 v4 := Tryz.zeroValue4
 t5 := Tryz.underlying5
 a5 := Tryz.isAgg5
 z5 := Tryz.sizeOf5
 v5 := Tryz.zeroValue5
 t9 := Tryz.underlying9
 a9 := Tryz.isAgg9
 z9 := Tryz.sizeOf9
 v9 := Tryz.zeroValue9
 t46 := Tryz.underlying151
 a46 := Tryz.isAgg151
 z46 := Tryz.sizeOf151
 v46 := Tryz.zeroValue151
 t51 := Tryz.underlying177
 a51 := Tryz.isAgg177
 z51 := Tryz.sizeOf177
 v51 := Tryz.zeroValue177
 t59 := Tryz.underlying82
 a59 := Tryz.isAgg82
 z59 := Tryz.sizeOf82
 v59 := Tryz.zeroValue82
 t146 := Tryz.underlying178
 a146 := Tryz.isAgg178
 z146 := Tryz.sizeOf178
 v146 := Tryz.zeroValue178
 g1 := by kernel_rfl }
open Go.RowKit Go.Lib in
theorem Tryz.strings_Cut (s sep : ByteArray) (m : Int) (w : World) (hs : s.size < 4294967281) (hm : w.cell? ⟨0, 0, none⟩ = some (.int .i64 m)) :
   Calls Tryz.prog 33 #[.string s, .string sep] w fun e w' => e = .returned (.tuple #[.string ⟨(Lib.cut s.data.toList sep.data.toList).1.toArray⟩, .string ⟨(Lib.cut s.data.toList sep.data.toList).2.1.toArray⟩, .bool (Lib.cut s.data.toList sep.data.toList).2.2]) ∧ ∃ n, w' = w.drewN n := Any.strings_Cut Tryz.lays145 s sep m w hs hm
def Tryz.lays146_ren : Go.Shelf.Ren := ⟨fun | 146 => 49 | 221 => 60 | 268 => 74 | 138 => 75 | 143 => 76 | 195 => 125 | 197 => 126 | 218 => 127 | 219 => 59 | 260 => 167 | 217 => 70 | 225 => 71 | 224 => 72 | 267 => 73 | 266 => 123 | 314 => 124 | n => n, fun | 9 => 9 | 31 => 36 | 3 => 3 | 4 => 4 | 0 => 0 | 105 => 181 | 21 => 21 | 5 => 5 | 46 => 151 | 119 => 219 | 139 => 222 | 138 => 221 | 146 => 178 | 51 => 177 | n => n, fun | 1 => 0 | 3 => 4 | 4 => 5 | n => n⟩
theorem Tryz.lays146 : Go.Proofs.Lays.n146 Tryz.prog Tryz.lays146_ren := {
 mixed := by kernel_rfl
 f138 := Tryz.func75.trans (congrArg some (by kernel_rfl))
 f143 := Tryz.func76.trans (congrArg some (by kernel_rfl))
 f146 := Tryz.func49.trans (congrArg some (by kernel_rfl))
 f195 := Tryz.func125.trans (congrArg some (by kernel_rfl))
 f197 := Tryz.func126.trans (congrArg some (by kernel_rfl))
 f217 := Tryz.func70.trans (congrArg some (by kernel_rfl))
 f218 := Tryz.func127.trans (congrArg some (by kernel_rfl))
 f219 := Tryz.func59.trans (congrArg some (by kernel_rfl))
 f221 := Tryz.func60.trans (congrArg some (by kernel_rfl))
 f224 := Tryz.func72.trans (congrArg some (by kernel_rfl))
 f225 := Tryz.func71.trans (congrArg some (by kernel_rfl))
 f260 := Tryz.func167.trans (congrArg some (by kernel_rfl))
 f266 := Tryz.func123.trans (congrArg some (by kernel_rfl))
 f267 := Tryz.func73.trans (congrArg some (by kernel_rfl))
 f268 := Tryz.func74.trans (congrArg some (by kernel_rfl))
 f314 := Tryz.func124.trans (congrArg some (by kernel_rfl))
 t0 := Tryz.underlying0
 a0 := Tryz.isAgg0
 z0 := Tryz.sizeOf0
 v0 := Tryz.zeroValue0
 t3 := Tryz.underlying3
 a3 := Tryz.isAgg3
 z3 := Tryz.sizeOf3
 v3 := Tryz.zeroValue3
 t4 := Tryz.underlying4
 a4 := Tryz.isAgg4
 z4 := Tryz.sizeOf4
 v4 := Tryz.zeroValue4
 t5 := Tryz.underlying5
 a5 := Tryz.isAgg5
 z5 := Tryz.sizeOf5
 v5 := Tryz.zeroValue5
 t9 := Tryz.underlying9
 a9 := Tryz.isAgg9
 z9 := Tryz.sizeOf9
 v9 := Tryz.zeroValue9
 t21 := Tryz.underlying21
 a21 := Tryz.isAgg21
 z21 := Tryz.sizeOf21
 v21 := Tryz.zeroValue21
 t31 := Tryz.underlying36
 a31 := Tryz.isAgg36
 z31 := Tryz.sizeOf36
 v31 := Tryz.zeroValue36
 t46 := Tryz.underlying151
 a46 := Tryz.isAgg151
 z46 := Tryz.sizeOf151
 v46 := Tryz.zeroValue151
 t51 := Tryz.underlying177
 a51 := Tryz.isAgg177
 z51 := Tryz.sizeOf177
 v51 := Tryz.zeroValue177
 t105 := Tryz.underlying181
 a105 := Tryz.isAgg181
 z105 := Tryz.sizeOf181
 v105 := Tryz.zeroValue181
 t119 := Tryz.underlying219
 a119 := Tryz.isAgg219
 z119 := Tryz.sizeOf219
 t138 := Tryz.underlying221
 a138 := Tryz.isAgg221
 z138 := Tryz.sizeOf221
 v138 := Tryz.zeroValue221
 t139 := Tryz.underlying222
 a139 := Tryz.isAgg222
 z139 := Tryz.sizeOf222
 v139 := Tryz.zeroValue222
 t146 := Tryz.underlying178
 a146 := Tryz.isAgg178
 z146 := Tryz.sizeOf178
 v146 := Tryz.zeroValue178
 g1 := by kernel_rfl
 g3 := by kernel_rfl
 g4 := by kernel_rfl }
open Go.RowKit Go.Lib in
theorem Tryz.strings_Split (s sep : ByteArray) (m : Int) (w : World) (hs : s.size < 4294967281) (hm : w.cell? ⟨0, 0, none⟩ = some (.int .i64 m)) (h1 : 1 ≤ sep.size) :
   Calls Tryz.prog 49 #[.string s, .string sep] w fun e w' =>
     e = .returned (.slice (some ⟨w.heap.size, 0, none⟩) (Lib.countB s sep + 1) (Lib.countB s sep + 1)) ∧ w' = w.alloc (.cells ((Lib.splitB sep 0 (Lib.countB s sep) s).map Value.string).toArray 9) := Any.strings_Split Tryz.lays146 (by kernel_rfl) s sep m w hs hm h1
end Go.Proofs
