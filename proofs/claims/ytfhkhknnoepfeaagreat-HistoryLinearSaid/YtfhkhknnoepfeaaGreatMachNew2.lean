/- Machines of deques as values: made, stepped and asked through the interface (for seats without bitmaps). -/
import Derived.Test.YtfhkhknnoepfeaaGreatMgJ
import Derived.Test.YtfhkhknnoepfeaaGreatStealStep
import Derived.Test.YtfhkhknnoepfeaaGreatMgB
namespace Go.Proofs.YtfhkhknnoepfeaaGreat
open Go.RowKit
set_option linter.unusedVariables false

/-- The machine's block, its pointer's type, its method Step. -/
def machO (k : K) : Obj := match k.kind with
  | 0 => pushO k
  | 1 => popO k
  | _ => stealO k
def machT : Nat → TypeId
  | 0 => 139
  | 1 => 144
  | _ => 147
def machS : Nat → FuncId
  | 0 => 139
  | 1 => 149
  | _ => 154
/-- The interface value of the machine at block p. -/
def ifc (kd p : Nat) : Value := .iface (machT kd) (.pointer (some ⟨p, 0, none⟩))

theorem step_ahead (kd p : Nat) (w : World) : (nilAhead 319 (machT kd) (.pointer (some ⟨p, 0, none⟩)) "Step").run Tryz.prog w = .ok (some false) w :=
  match kd with
  | 0 => by kernel_rfl
  | 1 => by kernel_rfl
  | _ + 2 => by kernel_rfl
theorem step_method (kd p : Nat) (w : World) : (method 319 (machT kd) (.pointer (some ⟨p, 0, none⟩)) "Step").run Tryz.prog w = .ok (machS kd, .pointer (some ⟨p, 0, none⟩)) w :=
  match kd with
  | 0 => by kernel_rfl
  | 1 => by kernel_rfl
  | _ + 2 => by kernel_rfl
theorem result_ahead (kd p : Nat) (w : World) : (nilAhead 319 (machT kd) (.pointer (some ⟨p, 0, none⟩)) "Result").run Tryz.prog w = .ok (some false) w :=
  match kd with
  | 0 => by kernel_rfl
  | 1 => by kernel_rfl
  | _ + 2 => by kernel_rfl
theorem result_method (kd p : Nat) (w : World) : (method 319 (machT kd) (.pointer (some ⟨p, 0, none⟩)) "Result").run Tryz.prog w = .ok (138, .pointer (some ⟨p, 0, none⟩)) w :=
  match kd with
  | 0 => by kernel_rfl
  | 1 => by kernel_rfl
  | _ + 2 => by kernel_rfl
theorem step_enter (kd : Nat) (args : Array Value) (w : World) : (callFunc (machS kd) args).run Tryz.prog w = .ok (.enter (machS kd) args) w :=
  match kd with
  | 0 => run_callFunc_enter Tryz.func139 (by kernel_rfl) rfl args w
  | 1 => run_callFunc_enter Tryz.func149 (by kernel_rfl) rfl args w
  | _ + 2 => run_callFunc_enter Tryz.func154 (by kernel_rfl) rfl args w
theorem ifc_nil (kd p : Nat) (w : World) : (binOp .eql 57 (ifc kd p) .nilIface).run Tryz.prog w = .ok (.bool false) w :=
  match kd with
  | 0 => by kernel_rfl
  | 1 => by kernel_rfl
  | _ + 2 => by kernel_rfl

/-- A machine's step, whatever machine it is. -/
theorem mach_step (w : World) (p en m bc : Nat) (k : K) (s : MS) (hk : k.kind ≤ 2) (hok : k.over = false → k.ok) (hA : Apart p en m bc) (hE : w.cell? ⟨en, 22, none⟩ = some (.pointer (some ⟨m, 0, none⟩)))
    (hP : w.heap[p]? = some (machO k)) (hM : MemAt w m bc s) (hn : s.count ≤ 4000000000000000000) :
    Calls Tryz.prog (machS k.kind) #[.pointer (some ⟨p, 0, none⟩), .pointer (some ⟨en, 0, none⟩)] w (StepPost p m bc machO k s w) := by
  have hs := (stepK_same k s).1
  have go : ∀ (n : Nat) (O : K → Obj), k.kind = n → (∀ k' : K, k'.kind = n → machO k' = O k') → (w.heap[p]? = some (O k) → Calls Tryz.prog (machS n) #[.pointer (some ⟨p, 0, none⟩), .pointer (some ⟨en, 0, none⟩)] w (StepPost p m bc O k s w)) →
      Calls Tryz.prog (machS k.kind) #[.pointer (some ⟨p, 0, none⟩), .pointer (some ⟨en, 0, none⟩)] w (StepPost p m bc machO k s w) := by
    intro n O e hO hc
    rw [e]
    refine (hc (by rw [← hO k e]; exact hP)).mono ?_
    rintro e' w' ⟨h1, h2, h3, h4⟩
    exact ⟨h1, h2, by rw [hO _ (hs.trans e)]; exact h3, h4⟩
  rcases (show k.kind = 0 ∨ k.kind = 1 ∨ k.kind = 2 from by omega) with e | e | e
  · exact go 0 pushO e (fun k' h => by unfold machO; simp only [h]) (fun h => push_step w p en m bc k s e hok hA hE h hM hn)
  · exact go 1 popO e (fun k' h => by unfold machO; simp only [h]) (fun h => pop_step w p en m bc k s e hok hA hE h hM hn)
  · exact go 2 stealO e (fun k' h => by unfold machO; simp only [h]) (fun h => steal_step w p en m bc k s e hok hA hE h hM hn)

/-- The first cells of a machine's block. -/
theorem mach_cells {w : World} {p : Nat} {k : K} (h : w.heap[p]? = some (machO k)) : w.cell? ⟨p, 0, none⟩ = some (.bool k.over) ∧ w.cell? ⟨p, 1, none⟩ = some (.int .i64 k.code) ∧ w.cell? ⟨p, 2, none⟩ = some (.int .i64 k.val) := by
  unfold machO at h
  split at h
  · unfold pushO at h; exact ⟨by rw [cell_blk h]; rfl, by rw [cell_blk h]; rfl, by rw [cell_blk h]; rfl⟩
  · unfold popO at h; exact ⟨by rw [cell_blk h]; rfl, by rw [cell_blk h]; rfl, by rw [cell_blk h]; rfl⟩
  · unfold stealO at h; exact ⟨by rw [cell_blk h]; rfl, by rw [cell_blk h]; rfl, by rw [cell_blk h]; rfl⟩

/-- What a maker of a machine comes to. -/
def NewPost (k : K) (w : World) (e : Ending) (w' : World) : Prop := ∃ p, e = .returned (ifc k.kind p) ∧ Only [] w w' ∧ w'.heap[p]? = some (machO k) ∧ w.heap.size ≤ p ∧ p < w'.heap.size

theorem push_new (w : World) (q : Q4) (v : Int) :
    Calls Tryz.prog 38 #[q.v, .int .i64 v] w (NewPost (newPush q v) w) := by
  obtain ⟨a, b, c, d⟩ := q
  go_enter Tryz.func38, Tryz.ntmps38
  simp only [Q4.v]
  go_wp2
  go_ret
  refine ⟨w.heap.size + 1, rfl, ((Only.refl [] w).alloc _).alloc _, ?_, by omega, ?_⟩
  · have h := blk_alloc_new (w.alloc (.cells #[.int .i64 a, .int .i64 b, .int .i64 c, .int .i64 d] 50)) (pushO (newPush ⟨a, b, c, d⟩ v))
    rwa [show (w.alloc (.cells #[.int .i64 a, .int .i64 b, .int .i64 c, .int .i64 d] 50)).heap.size = w.heap.size + 1 from by simp] at h
  · show _ < ((w.alloc (.cells #[.int .i64 a, .int .i64 b, .int .i64 c, .int .i64 d] 50)).alloc (pushO (newPush ⟨a, b, c, d⟩ v))).heap.size
    simp

theorem pop_new (w : World) (q : Q4) :
    Calls Tryz.prog 39 #[q.v] w (NewPost (newPop q) w) := by
  obtain ⟨a, b, c, d⟩ := q
  go_enter Tryz.func39, Tryz.ntmps39
  simp only [Q4.v]
  go_wp2
  go_ret
  refine ⟨w.heap.size + 1, rfl, ((Only.refl [] w).alloc _).alloc _, ?_, by omega, ?_⟩
  · have h := blk_alloc_new (w.alloc (.cells #[.int .i64 a, .int .i64 b, .int .i64 c, .int .i64 d] 50)) (popO (newPop ⟨a, b, c, d⟩))
    rwa [show (w.alloc (.cells #[.int .i64 a, .int .i64 b, .int .i64 c, .int .i64 d] 50)).heap.size = w.heap.size + 1 from by simp] at h
  · show _ < ((w.alloc (.cells #[.int .i64 a, .int .i64 b, .int .i64 c, .int .i64 d] 50)).alloc (popO (newPop ⟨a, b, c, d⟩))).heap.size
    simp

theorem steal_new (w : World) (q : Q4) :
    Calls Tryz.prog 40 #[q.v] w (NewPost (newSteal q) w) := by
  obtain ⟨a, b, c, d⟩ := q
  go_enter Tryz.func40, Tryz.ntmps40
  simp only [Q4.v]
  go_wp2
  go_ret
  refine ⟨w.heap.size + 1, rfl, ((Only.refl [] w).alloc _).alloc _, ?_, by omega, ?_⟩
  · have h := blk_alloc_new (w.alloc (.cells #[.int .i64 a, .int .i64 b, .int .i64 c, .int .i64 d] 50)) (stealO (newSteal ⟨a, b, c, d⟩))
    rwa [show (w.alloc (.cells #[.int .i64 a, .int .i64 b, .int .i64 c, .int .i64 d] 50)).heap.size = w.heap.size + 1 from by simp] at h
  · show _ < ((w.alloc (.cells #[.int .i64 a, .int .i64 b, .int .i64 c, .int .i64 d] 50)).alloc (stealO (newSteal ⟨a, b, c, d⟩))).heap.size
    simp

end Go.Proofs.YtfhkhknnoepfeaaGreat
