/- Machines as values: made, stepped, asked and copied through the interface. -/
import Derived.Test.YtlklfpbimoolbaaGreatPopStep2
import Derived.Test.YtlklfpbimoolbaaGreatStealStep
import Derived.Test.YtlklfpbimoolbaaGreatSetStep
import Derived.Test.YtlklfpbimoolbaaGreatClearStep
import Derived.Test.YtlklfpbimoolbaaGreatDequeSeq
namespace Go.Proofs.YtlklfpbimoolbaaGreat
open Go.RowKit
set_option linter.unusedVariables false

/-- The machine's block, its pointer's type, its method Step. -/
def machO (k : K) : Obj := match k.kind with
  | 0 => pushO k
  | 1 => popO k
  | 2 => stealO k
  | 3 => setO k
  | _ => clearO k
def machT : Nat → TypeId
  | 0 => 107
  | 1 => 112
  | 2 => 117
  | 3 => 121
  | _ => 124
def machS : Nat → FuncId
  | 0 => 185
  | 1 => 192
  | 2 => 197
  | 3 => 199
  | _ => 204
/-- The interface value of the machine at block p. -/
def ifc (kd p : Nat) : Value := .iface (machT kd) (.pointer (some ⟨p, 0, none⟩))

theorem step_ahead (kd p : Nat) (w : World) : (nilAhead 359 (machT kd) (.pointer (some ⟨p, 0, none⟩)) "Step").run Tryz.prog w = .ok (some false) w :=
  match kd with
  | 0 => by kernel_rfl
  | 1 => by kernel_rfl
  | 2 => by kernel_rfl
  | 3 => by kernel_rfl
  | _ + 4 => by kernel_rfl
theorem step_method (kd p : Nat) (w : World) : (method 359 (machT kd) (.pointer (some ⟨p, 0, none⟩)) "Step").run Tryz.prog w = .ok (machS kd, .pointer (some ⟨p, 0, none⟩)) w :=
  match kd with
  | 0 => by kernel_rfl
  | 1 => by kernel_rfl
  | 2 => by kernel_rfl
  | 3 => by kernel_rfl
  | _ + 4 => by kernel_rfl
theorem result_ahead (kd p : Nat) (w : World) : (nilAhead 359 (machT kd) (.pointer (some ⟨p, 0, none⟩)) "Result").run Tryz.prog w = .ok (some false) w :=
  match kd with
  | 0 => by kernel_rfl
  | 1 => by kernel_rfl
  | 2 => by kernel_rfl
  | 3 => by kernel_rfl
  | _ + 4 => by kernel_rfl
theorem result_method (kd p : Nat) (w : World) : (method 359 (machT kd) (.pointer (some ⟨p, 0, none⟩)) "Result").run Tryz.prog w = .ok (184, .pointer (some ⟨p, 0, none⟩)) w :=
  match kd with
  | 0 => by kernel_rfl
  | 1 => by kernel_rfl
  | 2 => by kernel_rfl
  | 3 => by kernel_rfl
  | _ + 4 => by kernel_rfl
theorem step_enter (kd : Nat) (args : Array Value) (w : World) : (callFunc (machS kd) args).run Tryz.prog w = .ok (.enter (machS kd) args) w :=
  match kd with
  | 0 => run_callFunc_enter Tryz.func185 (by kernel_rfl) rfl args w
  | 1 => run_callFunc_enter Tryz.func192 (by kernel_rfl) rfl args w
  | 2 => run_callFunc_enter Tryz.func197 (by kernel_rfl) rfl args w
  | 3 => run_callFunc_enter Tryz.func199 (by kernel_rfl) rfl args w
  | _ + 4 => run_callFunc_enter Tryz.func204 (by kernel_rfl) rfl args w
theorem ifc_nil (kd p : Nat) (w : World) : (binOp .eql 36 (ifc kd p) .nilIface).run Tryz.prog w = .ok (.bool false) w :=
  match kd with
  | 0 => by kernel_rfl
  | 1 => by kernel_rfl
  | 2 => by kernel_rfl
  | 3 => by kernel_rfl
  | _ + 4 => by kernel_rfl

/-- A machine's step, whatever machine it is. -/
theorem mach_step (w : World) (p en m bc : Nat) (k : K) (s : MS) (hk : k.kind ≤ 4) (hok : k.over = false → k.ok) (hA : Apart p en m bc) (hE : w.cell? ⟨en, 22, none⟩ = some (.pointer (some ⟨m, 0, none⟩)))
    (hP : w.heap[p]? = some (machO k)) (hM : MemAt w m bc s) (hn : s.count ≤ 4000000000000000000) :
    Calls Tryz.prog (machS k.kind) #[.pointer (some ⟨p, 0, none⟩), .pointer (some ⟨en, 0, none⟩)] w (StepPost p m bc machO k s w) := by
  have hs := (stepK_same k s).1
  have go : ∀ (n : Nat) (O : K → Obj), k.kind = n → (∀ k' : K, k'.kind = n → machO k' = O k') → (w.heap[p]? = some (O k) → Calls Tryz.prog (machS n) #[.pointer (some ⟨p, 0, none⟩), .pointer (some ⟨en, 0, none⟩)] w (StepPost p m bc O k s w)) →
      Calls Tryz.prog (machS k.kind) #[.pointer (some ⟨p, 0, none⟩), .pointer (some ⟨en, 0, none⟩)] w (StepPost p m bc machO k s w) := by
    intro n O e hO hc
    rw [e]
    refine (hc (by rw [← hO k e]; exact hP)).mono ?_
    rintro e' w' ⟨h1, h2, h3, h4⟩
    exact ⟨h1, h2, by rw [hO _ (hs.trans e)]; exact h3, h4⟩
  rcases (show k.kind = 0 ∨ k.kind = 1 ∨ k.kind = 2 ∨ k.kind = 3 ∨ k.kind = 4 from by omega) with e | e | e | e | e
  · exact go 0 pushO e (fun k' h => by unfold machO; simp only [h]) (fun h => push_step w p en m bc k s e hok hA hE h hM hn)
  · exact go 1 popO e (fun k' h => by unfold machO; simp only [h]) (fun h => pop_step w p en m bc k s e hok hA hE h hM hn)
  · exact go 2 stealO e (fun k' h => by unfold machO; simp only [h]) (fun h => steal_step w p en m bc k s e hok hA hE h hM hn)
  · exact go 3 setO e (fun k' h => by unfold machO; simp only [h]) (fun h => set_step w p en m bc k s e hok hA hE h hM hn)
  · exact go 4 clearO e (fun k' h => by unfold machO; simp only [h]) (fun h => clear_step w p en m bc k s e hok hA hE h hM hn)

/-- The first cells of a machine's block. -/
theorem mach_cells {w : World} {p : Nat} {k : K} (h : w.heap[p]? = some (machO k)) : w.cell? ⟨p, 0, none⟩ = some (.bool k.over) ∧ w.cell? ⟨p, 1, none⟩ = some (.int .i64 k.code) ∧ w.cell? ⟨p, 2, none⟩ = some (.int .i64 k.val) := by
  unfold machO at h
  split at h
  · unfold pushO at h; exact ⟨by rw [cell_blk h]; rfl, by rw [cell_blk h]; rfl, by rw [cell_blk h]; rfl⟩
  · unfold popO at h; exact ⟨by rw [cell_blk h]; rfl, by rw [cell_blk h]; rfl, by rw [cell_blk h]; rfl⟩
  · unfold stealO at h; exact ⟨by rw [cell_blk h]; rfl, by rw [cell_blk h]; rfl, by rw [cell_blk h]; rfl⟩
  · unfold setO at h; exact ⟨by rw [cell_blk h]; rfl, by rw [cell_blk h]; rfl, by rw [cell_blk h]; rfl⟩
  · unfold clearO at h; exact ⟨by rw [cell_blk h]; rfl, by rw [cell_blk h]; rfl, by rw [cell_blk h]; rfl⟩

/-- What a maker of a machine comes to. -/
def NewPost (k : K) (w : World) (e : Ending) (w' : World) : Prop := ∃ p, e = .returned (ifc k.kind p) ∧ Only [] w w' ∧ w'.heap[p]? = some (machO k) ∧ w.heap.size ≤ p ∧ p < w'.heap.size

theorem push_new (w : World) (q : Q4) (v : Int) :
    Calls Tryz.prog 17 #[q.v, .int .i64 v] w (NewPost (newPush q v) w) := by
  obtain ⟨a, b, c, d⟩ := q
  go_enter Tryz.func17, Tryz.ntmps17
  simp only [Q4.v]
  go_wp2
  go_ret
  refine ⟨w.heap.size + 1, rfl, ((Only.refl [] w).alloc _).alloc _, ?_, by omega, ?_⟩
  · have h := blk_alloc_new (w.alloc (.cells #[.int .i64 a, .int .i64 b, .int .i64 c, .int .i64 d] 27)) (pushO (newPush ⟨a, b, c, d⟩ v))
    rwa [show (w.alloc (.cells #[.int .i64 a, .int .i64 b, .int .i64 c, .int .i64 d] 27)).heap.size = w.heap.size + 1 from by simp] at h
  · show _ < ((w.alloc (.cells #[.int .i64 a, .int .i64 b, .int .i64 c, .int .i64 d] 27)).alloc (pushO (newPush ⟨a, b, c, d⟩ v))).heap.size
    simp

theorem pop_new (w : World) (q : Q4) :
    Calls Tryz.prog 19 #[q.v] w (NewPost (newPop q) w) := by
  obtain ⟨a, b, c, d⟩ := q
  go_enter Tryz.func19, Tryz.ntmps19
  simp only [Q4.v]
  go_wp2
  go_ret
  refine ⟨w.heap.size + 1, rfl, ((Only.refl [] w).alloc _).alloc _, ?_, by omega, ?_⟩
  · have h := blk_alloc_new (w.alloc (.cells #[.int .i64 a, .int .i64 b, .int .i64 c, .int .i64 d] 27)) (popO (newPop ⟨a, b, c, d⟩))
    rwa [show (w.alloc (.cells #[.int .i64 a, .int .i64 b, .int .i64 c, .int .i64 d] 27)).heap.size = w.heap.size + 1 from by simp] at h
  · show _ < ((w.alloc (.cells #[.int .i64 a, .int .i64 b, .int .i64 c, .int .i64 d] 27)).alloc (popO (newPop ⟨a, b, c, d⟩))).heap.size
    simp

theorem steal_new (w : World) (q : Q4) :
    Calls Tryz.prog 24 #[q.v] w (NewPost (newSteal q) w) := by
  obtain ⟨a, b, c, d⟩ := q
  go_enter Tryz.func24, Tryz.ntmps24
  simp only [Q4.v]
  go_wp2
  go_ret
  refine ⟨w.heap.size + 1, rfl, ((Only.refl [] w).alloc _).alloc _, ?_, by omega, ?_⟩
  · have h := blk_alloc_new (w.alloc (.cells #[.int .i64 a, .int .i64 b, .int .i64 c, .int .i64 d] 27)) (stealO (newSteal ⟨a, b, c, d⟩))
    rwa [show (w.alloc (.cells #[.int .i64 a, .int .i64 b, .int .i64 c, .int .i64 d] 27)).heap.size = w.heap.size + 1 from by simp] at h
  · show _ < ((w.alloc (.cells #[.int .i64 a, .int .i64 b, .int .i64 c, .int .i64 d] 27)).alloc (stealO (newSteal ⟨a, b, c, d⟩))).heap.size
    simp

theorem set_new (w : World) (cell bit : Int) :
    Calls Tryz.prog 26 #[.int .i64 cell, .int .i64 bit] w (NewPost (newSet cell bit) w) := by
  go_enter Tryz.func26, Tryz.ntmps26
  go_wp2
  go_ret
  refine ⟨w.heap.size, rfl, (Only.refl [] w).alloc _, blk_alloc_new w (setO (newSet cell bit)), by omega, ?_⟩
  show _ < (w.alloc (setO (newSet cell bit))).heap.size
  simp

theorem clear_new (w : World) (cell bit : Int) (q : Q4) :
    Calls Tryz.prog 27 #[.int .i64 cell, .int .i64 bit, q.v] w (NewPost (newClear cell bit q) w) := by
  obtain ⟨a, b, c, d⟩ := q
  go_enter Tryz.func27, Tryz.ntmps27
  simp only [Q4.v]
  go_wp2
  go_ret
  refine ⟨w.heap.size + 1, rfl, ((Only.refl [] w).alloc _).alloc _, ?_, by omega, ?_⟩
  · have h := blk_alloc_new (w.alloc (.cells #[.int .i64 a, .int .i64 b, .int .i64 c, .int .i64 d] 27)) (clearO (newClear cell bit ⟨a, b, c, d⟩))
    rwa [show (w.alloc (.cells #[.int .i64 a, .int .i64 b, .int .i64 c, .int .i64 d] 27)).heap.size = w.heap.size + 1 from by simp] at h
  · show _ < ((w.alloc (.cells #[.int .i64 a, .int .i64 b, .int .i64 c, .int .i64 d] 27)).alloc (clearO (newClear cell bit ⟨a, b, c, d⟩))).heap.size
    simp
end Go.Proofs.YtlklfpbimoolbaaGreat
