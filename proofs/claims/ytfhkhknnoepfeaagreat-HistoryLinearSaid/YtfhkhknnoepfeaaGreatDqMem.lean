/- What the methods of package memory compute: for every memory in the heap, every cell and every word. -/
import Derived.Test.YtfhkhknnoepfeaaGreatRows
import Derived.Test.YtfhkhknnoepfeaaGreatKit
import Derived.Deep.QuietTactic
import Derived.BigQuiet
import Derived.Deep.RegionWith
import Derived.StillTailTactics
namespace Go.Proofs.YtfhkhknnoepfeaaGreat
open Go.RowKit

/-- A memory: its cells, the last access, the number of accesses. -/
structure MS where
  cells : List Int
  kind : Int
  cell : Int
  old : Int
  new : Int
  count : Int

def MS.acc (s : MS) (kind : Int) (k : Nat) (new : Int) : MS :=
  { cells := s.cells.set k new, kind := kind, cell := k, old := s.cells.getD k 0, new := new, count := s.count + 1 }

def memO (v : Value) (s : MS) : Obj := .cells #[v, .int .i64 s.kind, .int .i64 s.cell, .int .u64 s.old, .int .u64 s.new, .int .i64 s.count] 127 (0, 0)

/-- Memory s lies at block m, its cells in block bc. -/
def MemAt (w : World) (m bc : Nat) (s : MS) : Prop :=
  ∃ v, w.heap[m]? = some (memO v s) ∧ RowAt w v bc 105 (s.cells.map (.int .u64)) ∧ bc ≠ m ∧ 0 ≤ s.count

theorem access_out (w : World) (m bc : Nat) (s : MS) (kind c : Int) (f : Value) (h : MemAt w m bc s) (hc : c < 0 ∨ s.cells.length ≤ c) :
    Calls Tryz.prog 145 #[.pointer (some ⟨m, 0, none⟩), .int .i64 kind, .int .i64 c, f] w fun e w' => e = .returned (.tuple #[.int .u64 0, .bool false]) ∧ w = w' := by
  obtain ⟨v, h1, ⟨ao, cap, rfl, h3, h4, h5⟩, h6, h7⟩ := h
  have c0 := cell_blk h1 0
  simp at c0
  clear h1 h5
  simp only [List.length_map] at h3
  go_enter Tryz.func145, Tryz.ntmps145
  by_cases hn : c < 0
  · go_wp2
    go_ret2
    exact ⟨rfl, rfl⟩
  · have hge : (s.cells.length : Int) ≤ c := by omega
    go_wp2
    go_ret2
    exact ⟨rfl, rfl⟩

theorem memAt_acc {w : World} {m bc : Nat} {s : MS} {v : Value} {kind x y : Int} {k : Nat} (h1 : w.heap[m]? = some (memO v s))
    (hrow : ∀ (j : Nat) (x : Value) (w' : World), j < (s.cells.map (Value.int .u64)).length → w'.heap[bc]? = (w.setCell ⟨bc, j, none⟩ x).heap[bc]? → RowAt w' v bc 105 ((s.cells.map (Value.int .u64)).set j x))
    (hne : m ≠ bc) (hk : k < (s.cells.map (Value.int .u64)).length) (hx : s.cells.getD k 0 = x) (h0 : 0 ≤ s.count) :
    MemAt ((((((w.setCell ⟨bc, k, none⟩ (.int .u64 y)).setCell ⟨m, 1, none⟩ (.int .i64 kind)).setCell ⟨m, 2, none⟩ (.int .i64 k)).setCell ⟨m, 3, none⟩ (.int .u64 x)).setCell ⟨m, 4, none⟩ (.int .u64 y)).setCell ⟨m, 5, none⟩ (.int .i64 (s.count + 1))).drew m bc (s.acc kind k y) := by
  have e0 : (w.setCell ⟨bc, k, none⟩ (.int .u64 y)).heap[m]? = some (.cells #[v, .int .i64 s.kind, .int .i64 s.cell, .int .u64 s.old, .int .u64 s.new, .int .i64 s.count] 127 (0, 0)) := by rw [blk_setCell_ne hne]; exact h1
  have e5 := blk_setCell (blk_setCell (blk_setCell (blk_setCell (blk_setCell e0 1 (.int .i64 kind)) 2 (.int .i64 k)) 3 (.int .u64 x)) 4 (.int .u64 y)) 5 (.int .i64 (s.count + 1))
  simp only [List.setIfInBounds_toArray, List.set_cons_succ, List.set_cons_zero] at e5
  refine ⟨v, ?_, ?_, fun e => hne e.symm, by simp only [MS.acc]; omega⟩
  · rw [heap_drew, e5]
    simp only [memO, MS.acc, hx]
  · have := hrow k (.int .u64 y) ((((((w.setCell ⟨bc, k, none⟩ (.int .u64 y)).setCell ⟨m, 1, none⟩ (.int .i64 kind)).setCell ⟨m, 2, none⟩ (.int .i64 k)).setCell ⟨m, 3, none⟩ (.int .u64 x)).setCell ⟨m, 4, none⟩ (.int .u64 y)).setCell ⟨m, 5, none⟩ (.int .i64 (s.count + 1))).drew hk
      (by rw [heap_drew, blk_setCell_ne (fun e => hne e.symm), blk_setCell_ne (fun e => hne e.symm), blk_setCell_ne (fun e => hne e.symm), blk_setCell_ne (fun e => hne e.symm), blk_setCell_ne (fun e => hne e.symm)])
    rw [← List.map_set] at this
    exact this

set_option maxRecDepth 100000 in
set_option maxHeartbeats 400000 in
theorem access_in (w : World) (m bc : Nat) (s : MS) (kind : Int) (k : Nat) (F : Nat) (caps : Array Value) (x y : Int) (h : MemAt w m bc s) (hk : k < s.cells.length) (hx : s.cells[k] = x) (hcount : s.count ≤ 4000000000000000000)
    (hcf : ∀ (args : Array Value) (w : World), (callFunc F args).run Tryz.prog w = .ok (.enter F args) w) (hclo : Calls Tryz.prog F (#[.int .u64 x] ++ caps) w.drew fun e w' => e = .returned (.int .u64 y) ∧ w.drew = w') :
    Calls Tryz.prog 145 #[.pointer (some ⟨m, 0, none⟩), .int .i64 kind, .int .i64 k, .func (.func F) #[] caps] w fun e w' => e = .returned (.tuple #[.int .u64 x, .bool true]) ∧ Only [m, bc] w w' ∧ MemAt w' m bc (s.acc kind k y) := by
  obtain ⟨v, h1, h2, h6, h7⟩ := h
  obtain ⟨cap, rfl, hcap, hcapm, hcell, hfree, hrow⟩ := h2.at (by simp; omega)
  have hkc := hcell k (by simpa using hk)
  have hkf := hfree k
  simp only [List.getElem_map, hx] at hkc
  simp only [List.length_map] at hcap
  have c0 := cell_blk h1 0
  have c1 := cell_blk h1 1
  have c2 := cell_blk h1 2
  have c3 := cell_blk h1 3
  have c4 := cell_blk h1 4
  have c5 := cell_blk h1 5
  have f1 := free_blk h1 1
  have f2 := free_blk h1 2
  have f3 := free_blk h1 3
  have f4 := free_blk h1 4
  have f5 := free_blk h1 5
  simp at c0 c1 c2 c3 c4 c5
  have H1 := Lib.hid h1
  have H2 := Lib.hid h2
  have HX := Lib.hid hx
  have HR := Lib.hid hrow
  have HC := Lib.hid hclo
  have hne : m ≠ bc := fun e => h6 e.symm
  clear h1 h2 hrow hclo hcell hfree hx
  go_enter Tryz.func145, Tryz.ntmps145
  go_wp2_with fail
  refine wp_region_still_tail 9 (by kernel_rfl) (by kernel_rfl) ?_
  simp only [List.take_succ_cons, List.take_zero, List.drop_succ_cons, List.drop_zero]
  repeat still_step
  refine wpStill_step (fun K hK => ?_)
  go_simp
  refine ⟨_, HC.out.mono (fun e w'' h => ⟨h.1, h.2.symm⟩), hK _ ?_⟩
  clear hK K
  still_step
  refine wpStill_nil ?_
  change wpList _ _ _ _ _ w.drew
  go_wp2_with fail
  go_ret2
  refine ⟨rfl, ?_, ?_⟩
  · exact ((((((((Only.refl _ _).setCell (by simp) _).setCell (by simp) _).setCell (by simp) _).setCell (by simp) _).setCell (by simp) _).setCell (by simp) _).drew)
  · exact memAt_acc H1.out HR.out hne (by simpa using hk) (by simp [List.getD, hk, HX.out]) h7

def orB (x v : Int) : Int := bits BinOp.or IntKind.u64 x v
def andB (x v : Int) : Int := bits BinOp.and IntKind.u64 x v
def casB (x o v : Int) : Int := if x = o then v else x
def addB (x v : Int) : Int := IntKind.u64.wrap (x + v)

theorem MemAt.keep {S : List Nat} {w w' : World} {m bc : Nat} {s : MS} (h : MemAt w m bc s) (ho : Only S w w') (h1 : m ∉ S) (h2 : bc ∉ S) : MemAt w' m bc s := by
  obtain ⟨v, a, b, c, d⟩ := h
  exact ⟨v, ho.keep a h1, b.keep ho h2, c, d⟩
theorem MemAt.lt {w : World} {m bc : Nat} {s : MS} (h : MemAt w m bc s) : m < w.heap.size := by
  obtain ⟨v, a, _⟩ := h
  exact lt_of_blk a
theorem MemAt.ltc {w : World} {m bc : Nat} {s : MS} (h : MemAt w m bc s) (hp : 0 < s.cells.length) : bc < w.heap.size := by
  obtain ⟨v, _, b, _⟩ := h
  obtain ⟨ao, cap, _, _, _, h3⟩ := b
  obtain ⟨_, arr, h4, _⟩ := h3 (by simpa using hp)
  exact lt_of_blk h4
theorem MemAt.drew {w : World} {m bc : Nat} {s : MS} (h : MemAt w m bc s) : MemAt w.drew m bc s := h

theorem memStore1_any (x v : Int) (b : Nat) (w : World) (hc : w.cell? ⟨b, 0, none⟩ = some (.int .u64 v)) :
    Calls Tryz.prog 147 #[.int .u64 x, .pointer (some ⟨b, 0, none⟩)] w fun e w' => e = .returned (.int .u64 v) ∧ w = w' := by
  go_enter Tryz.func147, Tryz.ntmps147
  go_wp2
  go_ret
  exact ⟨rfl, rfl⟩

theorem memLoad1_any (x : Int) (w : World) :
    Calls Tryz.prog 146 #[.int .u64 x] w fun e w' => e = .returned (.int .u64 x) ∧ w = w' := by
  go_enter Tryz.func146, Tryz.ntmps146
  go_wp2
  go_ret
  exact ⟨rfl, rfl⟩

theorem memCAS1_any (x o v : Int) (b c : Nat) (w : World) (hb : w.cell? ⟨b, 0, none⟩ = some (.int .u64 o)) (hc : w.cell? ⟨c, 0, none⟩ = some (.int .u64 v)) :
    Calls Tryz.prog 152 #[.int .u64 x, .pointer (some ⟨b, 0, none⟩), .pointer (some ⟨c, 0, none⟩)] w fun e w' => e = .returned (.int .u64 (casB x o v)) ∧ w = w' := by
  by_cases h : x = o
  · have h1 : (x == o) = true := by simpa using h
    rw [show casB x o v = v from if_pos h]
    clear h
    go_enter Tryz.func152, Tryz.ntmps152
    go_wp2
    go_ret
    exact ⟨rfl, rfl⟩
  · have h1 : (x == o) = false := by simpa using h
    rw [show casB x o v = x from if_neg h]
    clear h
    go_enter Tryz.func152, Tryz.ntmps152
    go_wp2
    go_ret
    exact ⟨rfl, rfl⟩

theorem cfLoad (args : Array Value) (w : World) : (callFunc 146 args).run Tryz.prog w = .ok (.enter 146 args) w := run_callFunc_enter Tryz.func146 (by kernel_rfl) rfl args w
theorem cfStore (args : Array Value) (w : World) : (callFunc 147 args).run Tryz.prog w = .ok (.enter 147 args) w := run_callFunc_enter Tryz.func147 (by kernel_rfl) rfl args w
theorem cfCAS (args : Array Value) (w : World) : (callFunc 152 args).run Tryz.prog w = .ok (.enter 152 args) w := run_callFunc_enter Tryz.func152 (by kernel_rfl) rfl args w
end Go.Proofs.YtfhkhknnoepfeaaGreat
