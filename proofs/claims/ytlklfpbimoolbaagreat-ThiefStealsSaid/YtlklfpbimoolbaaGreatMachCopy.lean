/- The copies of the machines of deques and bits (printed by gen_match.py). -/
import Derived.Test.YtlklfpbimoolbaaGreatMachNew
namespace Go.Proofs.YtlklfpbimoolbaaGreat
open Go.RowKit
set_option linter.unusedVariables false

set_option maxRecDepth 100000 in
theorem push_copy (w : World) (p : Nat) (k : K) (h : w.heap[p]? = some (pushO k)) :
    Calls Tryz.prog 182 #[.pointer (some ⟨p, 0, none⟩)] w fun e w' => ∃ q, e = .returned (.iface 107 (.pointer (some ⟨q, 0, none⟩))) ∧ Only [] w w' ∧ w'.heap[q]? = some (pushO k) ∧ w.heap.size ≤ q ∧ q < w'.heap.size := by
  unfold pushO at h ⊢
  have c0 := cell_blk h 0
  have c1 := cell_blk h 1
  have c2 := cell_blk h 2
  have c3 := cell_blk h 3
  have c4 := cell_blk h 4
  have c5 := cell_blk h 5
  have c6 := cell_blk h 6
  have c7 := cell_blk h 7
  have c8 := cell_blk h 8
  have c9 := cell_blk h 9
  simp at c0 c1 c2 c3 c4 c5 c6 c7 c8 c9
  clear h
  go_enter Tryz.func182, Tryz.ntmps182
  go_wp2_with fail
  go_ret
  exact ⟨w.heap.size, rfl, (Only.refl [] w).alloc _, blk_alloc_new _ _, Nat.le_refl _, by simp⟩

set_option maxRecDepth 100000 in
theorem pop_copy (w : World) (p : Nat) (k : K) (h : w.heap[p]? = some (popO k)) :
    Calls Tryz.prog 191 #[.pointer (some ⟨p, 0, none⟩)] w fun e w' => ∃ q, e = .returned (.iface 112 (.pointer (some ⟨q, 0, none⟩))) ∧ Only [] w w' ∧ w'.heap[q]? = some (popO k) ∧ w.heap.size ≤ q ∧ q < w'.heap.size := by
  unfold popO at h ⊢
  have c0 := cell_blk h 0
  have c1 := cell_blk h 1
  have c2 := cell_blk h 2
  have c3 := cell_blk h 3
  have c4 := cell_blk h 4
  have c5 := cell_blk h 5
  have c6 := cell_blk h 6
  have c7 := cell_blk h 7
  have c8 := cell_blk h 8
  have c9 := cell_blk h 9
  simp at c0 c1 c2 c3 c4 c5 c6 c7 c8 c9
  clear h
  go_enter Tryz.func191, Tryz.ntmps191
  go_wp2_with fail
  go_ret
  exact ⟨w.heap.size, rfl, (Only.refl [] w).alloc _, blk_alloc_new _ _, Nat.le_refl _, by simp⟩

set_option maxRecDepth 100000 in
theorem steal_copy (w : World) (p : Nat) (k : K) (h : w.heap[p]? = some (stealO k)) :
    Calls Tryz.prog 196 #[.pointer (some ⟨p, 0, none⟩)] w fun e w' => ∃ q, e = .returned (.iface 117 (.pointer (some ⟨q, 0, none⟩))) ∧ Only [] w w' ∧ w'.heap[q]? = some (stealO k) ∧ w.heap.size ≤ q ∧ q < w'.heap.size := by
  unfold stealO at h ⊢
  have c0 := cell_blk h 0
  have c1 := cell_blk h 1
  have c2 := cell_blk h 2
  have c3 := cell_blk h 3
  have c4 := cell_blk h 4
  have c5 := cell_blk h 5
  have c6 := cell_blk h 6
  have c7 := cell_blk h 7
  have c8 := cell_blk h 8
  have c9 := cell_blk h 9
  simp at c0 c1 c2 c3 c4 c5 c6 c7 c8 c9
  clear h
  go_enter Tryz.func196, Tryz.ntmps196
  go_wp2_with fail
  go_ret
  exact ⟨w.heap.size, rfl, (Only.refl [] w).alloc _, blk_alloc_new _ _, Nat.le_refl _, by simp⟩

set_option maxRecDepth 100000 in
theorem set_copy (w : World) (p : Nat) (k : K) (h : w.heap[p]? = some (setO k)) :
    Calls Tryz.prog 198 #[.pointer (some ⟨p, 0, none⟩)] w fun e w' => ∃ q, e = .returned (.iface 121 (.pointer (some ⟨q, 0, none⟩))) ∧ Only [] w w' ∧ w'.heap[q]? = some (setO k) ∧ w.heap.size ≤ q ∧ q < w'.heap.size := by
  unfold setO at h ⊢
  have c0 := cell_blk h 0
  have c1 := cell_blk h 1
  have c2 := cell_blk h 2
  have c3 := cell_blk h 3
  have c4 := cell_blk h 4
  simp at c0 c1 c2 c3 c4
  clear h
  go_enter Tryz.func198, Tryz.ntmps198
  go_wp2_with fail
  go_ret
  exact ⟨w.heap.size, rfl, (Only.refl [] w).alloc _, blk_alloc_new _ _, Nat.le_refl _, by simp⟩

set_option maxRecDepth 100000 in
theorem clear_copy (w : World) (p : Nat) (k : K) (h : w.heap[p]? = some (clearO k)) :
    Calls Tryz.prog 203 #[.pointer (some ⟨p, 0, none⟩)] w fun e w' => ∃ q, e = .returned (.iface 124 (.pointer (some ⟨q, 0, none⟩))) ∧ Only [] w w' ∧ w'.heap[q]? = some (clearO k) ∧ w.heap.size ≤ q ∧ q < w'.heap.size := by
  unfold clearO at h ⊢
  have c0 := cell_blk h 0
  have c1 := cell_blk h 1
  have c2 := cell_blk h 2
  have c3 := cell_blk h 3
  have c4 := cell_blk h 4
  have c5 := cell_blk h 5
  have c6 := cell_blk h 6
  have c7 := cell_blk h 7
  have c8 := cell_blk h 8
  have c9 := cell_blk h 9
  have c10 := cell_blk h 10
  simp at c0 c1 c2 c3 c4 c5 c6 c7 c8 c9 c10
  clear h
  go_enter Tryz.func203, Tryz.ntmps203
  go_wp2_with fail
  go_ret
  exact ⟨w.heap.size, rfl, (Only.refl [] w).alloc _, blk_alloc_new _ _, Nat.le_refl _, by simp⟩

def machC : Nat → FuncId
  | 0 => 182
  | 1 => 191
  | 2 => 196
  | 3 => 198
  | _ => 203
theorem copy_ahead (kd p : Nat) (w : World) : (nilAhead 359 (machT kd) (.pointer (some ⟨p, 0, none⟩)) "Copy").run Tryz.prog w = .ok (some false) w :=
  match kd with
  | 0 => by kernel_rfl
  | 1 => by kernel_rfl
  | 2 => by kernel_rfl
  | 3 => by kernel_rfl
  | _ + 4 => by kernel_rfl
theorem copy_method (kd p : Nat) (w : World) : (method 359 (machT kd) (.pointer (some ⟨p, 0, none⟩)) "Copy").run Tryz.prog w = .ok (machC kd, .pointer (some ⟨p, 0, none⟩)) w :=
  match kd with
  | 0 => by kernel_rfl
  | 1 => by kernel_rfl
  | 2 => by kernel_rfl
  | 3 => by kernel_rfl
  | _ + 4 => by kernel_rfl
theorem copy_enter (kd : Nat) (args : Array Value) (w : World) : (callFunc (machC kd) args).run Tryz.prog w = .ok (.enter (machC kd) args) w :=
  match kd with
  | 0 => run_callFunc_enter Tryz.func182 (by kernel_rfl) rfl args w
  | 1 => run_callFunc_enter Tryz.func191 (by kernel_rfl) rfl args w
  | 2 => run_callFunc_enter Tryz.func196 (by kernel_rfl) rfl args w
  | 3 => run_callFunc_enter Tryz.func198 (by kernel_rfl) rfl args w
  | _ + 4 => run_callFunc_enter Tryz.func203 (by kernel_rfl) rfl args w

/-- A machine's copy, whatever machine it is. -/
theorem mach_copy (w : World) (p : Nat) (k : K) (hk : k.kind ≤ 4) (hP : w.heap[p]? = some (machO k)) :
    Calls Tryz.prog (machC k.kind) #[.pointer (some ⟨p, 0, none⟩)] w fun e w' => ∃ q, e = .returned (ifc k.kind q) ∧ Only [] w w' ∧ w'.heap[q]? = some (machO k) ∧ w.heap.size ≤ q ∧ q < w'.heap.size := by
  rcases (show k.kind = 0 ∨ k.kind = 1 ∨ k.kind = 2 ∨ k.kind = 3 ∨ k.kind = 4 from by omega) with e | e | e | e | e
  · have hO : machO k = pushO k := by unfold machO; simp only [e]
    rw [hO] at hP ⊢
    rw [e]
    exact push_copy w p k hP
  · have hO : machO k = popO k := by unfold machO; simp only [e]
    rw [hO] at hP ⊢
    rw [e]
    exact pop_copy w p k hP
  · have hO : machO k = stealO k := by unfold machO; simp only [e]
    rw [hO] at hP ⊢
    rw [e]
    exact steal_copy w p k hP
  · have hO : machO k = setO k := by unfold machO; simp only [e]
    rw [hO] at hP ⊢
    rw [e]
    exact set_copy w p k hP
  · have hO : machO k = clearO k := by unfold machO; simp only [e]
    rw [hO] at hP ⊢
    rw [e]
    exact clear_copy w p k hP
end Go.Proofs.YtlklfpbimoolbaaGreat
