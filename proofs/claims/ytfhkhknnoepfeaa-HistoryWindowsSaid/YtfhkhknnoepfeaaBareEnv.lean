/- Bare environments of the program and of the reference, and when they are the same. -/
import Derived.Test.YtfhkhknnoepfeaaMachMem
import Derived.Test.YtfhkhknnoepfeaaPushStep
import Derived.Test.YtfhkhknnoepfeaaDqRef
namespace Go.Proofs.Ytfhkhknnoepfeaa
open Go.RowKit
set_option linter.unusedVariables false

def cfg0 : List Value := [.int .i64 0, .int .i64 0, .int .i64 0, .int .i64 0, .int .i64 0, .int .i64 0, .int .i64 0, .int .i64 0, .int .i64 0, .slice none 0 0, .slice none 0 0]
def lay0 : List Value := [.int .i64 0, .int .i64 0, .int .i64 0, .int .i64 0, .int .i64 0, .int .i64 0, .int .i64 0, .int .i64 0, .int .i64 0, .int .i64 0, .int .i64 0]
def envO (m ck : Nat) : Obj := .cells (cfg0 ++ (lay0 ++ [Value.pointer (some ⟨m, 0, none⟩), Value.pointer (some ⟨ck, 0, none⟩), Value.slice none 0 0, Value.slice none 0 0])).toArray 93 (0, 0)
def clkO (now draw : Int) : Obj := .cells #[.int .i64 now, .int .i64 draw] 105 (0, 0)
def renvPost (now : Int) : List Value := [.int .i64 now, .int .i64 0, .slice none 0 0, .slice none 0 0]

/-- The program's environment at en: its memory m with the cells bc, its clock ck. -/
structure EnvAt (w : World) (en m bc ck : Nat) (s : MS) (now : Int) : Prop where
  e : w.heap[en]? = some (envO m ck)
  c : w.heap[ck]? = some (clkO now 0)
  mm : MemAt w m bc s
  em : en ≠ m
  ec : en ≠ bc
  ek : en ≠ ck
  km : ck ≠ m
  kc : ck ≠ bc

theorem EnvAt.keep {S : List Nat} {w w' : World} {en m bc ck : Nat} {s : MS} {now : Int} (h : EnvAt w en m bc ck s now) (o : Only S w w') (h1 : en ∉ S) (h2 : m ∉ S) (h3 : bc ∉ S) (h4 : ck ∉ S) : EnvAt w' en m bc ck s now :=
  ⟨o.keep h.e h1, o.keep h.c h4, h.mm.keep o h2 h3, h.em, h.ec, h.ek, h.km, h.kc⟩
theorem EnvAt.keep0 {w w' : World} {en m bc ck : Nat} {s : MS} {now : Int} (h : EnvAt w en m bc ck s now) (o : Only [] w w') : EnvAt w' en m bc ck s now := h.keep o (by simp) (by simp) (by simp) (by simp)
theorem EnvAt.drew {w : World} {en m bc ck : Nat} {s : MS} {now : Int} (h : EnvAt w en m bc ck s now) : EnvAt w.drew en m bc ck s now := h.keep0 (Only.refl _ _).drew

theorem EnvAt.mem {w : World} {en m bc ck : Nat} {s : MS} {now : Int} (h : EnvAt w en m bc ck s now) : w.cell? ⟨en, 22, none⟩ = some (.pointer (some ⟨m, 0, none⟩)) := by
  rw [cell_blk (show w.heap[en]? = some (.cells _ _ _) from h.e)]; rfl
theorem EnvAt.clk {w : World} {en m bc ck : Nat} {s : MS} {now : Int} (h : EnvAt w en m bc ck s now) : w.cell? ⟨en, 23, none⟩ = some (.pointer (some ⟨ck, 0, none⟩)) := by
  rw [cell_blk (show w.heap[en]? = some (.cells _ _ _) from h.e)]; rfl
theorem EnvAt.recs {w : World} {en m bc ck : Nat} {s : MS} {now : Int} (h : EnvAt w en m bc ck s now) : w.cell? ⟨en, 24, none⟩ = some (.slice none 0 0) := by
  rw [cell_blk (show w.heap[en]? = some (.cells _ _ _) from h.e)]; rfl
theorem EnvAt.evs {w : World} {en m bc ck : Nat} {s : MS} {now : Int} (h : EnvAt w en m bc ck s now) : w.cell? ⟨en, 25, none⟩ = some (.slice none 0 0) := by
  rw [cell_blk (show w.heap[en]? = some (.cells _ _ _) from h.e)]; rfl

set_option maxRecDepth 100000 in
theorem clockNew_any (w : World) : Calls Try.prog 30 #[] w fun e w' => e = .returned (.pointer (some ⟨w.heap.size, 0, none⟩)) ∧ w' = w.alloc (clkO 0 0) := by
  go_enter Try.func30, Try.ntmps30
  go_wp2
  go_ret
  exact ⟨rfl, rfl⟩

set_option maxRecDepth 100000 in
theorem machBare_any (w : World) (c : Int) (n : Nat) (hc : c = n) (hn : n ≤ 131072) :
    Calls Try.prog 22 #[.int .i64 c] w fun e w' => ∃ en m bc ck, e = .returned (.pointer (some ⟨en, 0, none⟩)) ∧ Only [] w w' ∧ EnvAt w' en m bc ck ⟨zeros n, 0, 0, 0, 0, 0⟩ 0 ∧ w.heap.size ≤ en ∧ w.heap.size ≤ m ∧ w.heap.size ≤ bc ∧ w.heap.size ≤ ck ∧ en < w'.heap.size ∧ m < w'.heap.size ∧ bc < w'.heap.size ∧ ck < w'.heap.size := by
  have HN := fun w => Lib.hid (memNew_any w c n n (by omega) rfl hn)
  clear hn hc
  go_enter Try.func22, Try.ntmps22
  go_wp2_with fail
  refine (HN _).out.mono ?_; rintro e w1 ⟨m, bc, rfl, o1, h1, l1, l2, l3⟩
  have l4 := h1.lt
  have M1 := Lib.hid h1
  have O1 := Lib.hid o1
  clear h1 o1
  go_wp2_with fail
  refine (clockNew_any _).mono ?_; rintro e w2 ⟨rfl, rfl⟩
  go_wp2_with fail
  go_ret
  have k1 := blk_alloc_new w1 (clkO 0 0)
  have e1 : ((w1.alloc (clkO 0 0)).alloc (envO m w1.heap.size)).heap[w1.heap.size + 1]? = some (envO m w1.heap.size) := by
    have h := blk_alloc_new (w1.alloc (clkO 0 0)) (envO m w1.heap.size)
    rwa [show (w1.alloc (clkO 0 0)).heap.size = w1.heap.size + 1 from by simp] at h
  have o2 := ((Only.refl [] w1).alloc (clkO 0 0)).alloc (envO m w1.heap.size)
  have ls := O1.out.size
  refine ⟨w1.heap.size + 1, m, bc, w1.heap.size, by simp, O1.out.then0 o2, ⟨e1, ?_, M1.out.keep o2 (by simp) (by simp), by omega, by omega, by omega, by omega, by omega⟩, by omega, l1, l2, by omega, ?_, ?_, ?_, ?_⟩
  · show ((w1.alloc (clkO 0 0)).alloc (envO m w1.heap.size)).heap[w1.heap.size]? = _
    rw [blk_alloc_old (by simp)]
    exact k1
  all_goals
    show _ < ((w1.alloc (clkO 0 0)).alloc (envO m w1.heap.size)).heap.size
    simp <;> omega

end Go.Proofs.Ytfhkhknnoepfeaa
