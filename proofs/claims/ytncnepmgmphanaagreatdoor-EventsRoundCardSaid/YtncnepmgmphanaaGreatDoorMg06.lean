/- The contracts by types of the reference engine: the table (printed by gen_tc.py). Plain; no condition. -/
import Derived.Test.YtncnepmgmphanaaGreatDoorMg05
import Derived.Lib.BitFns
import Derived.Lib.TrailingZeros
import Derived.Laws.Entries
import Derived.Test.YtncnepmgmphanaaGreatDoorRows
import Derived.Lib.Strings
import Derived.Lib.Slices
import Derived.Lib.Small
import Derived.Lib.Walk
import Derived.Test.YtncnepmgmphanaaGreatDoorMg00
import Derived.Laws.Bits64b
import Derived.WalkSpells
import Derived.IntWalk
import Derived.Test.YtncnepmgmphanaaGreatDoorProg
import Derived.Below
import Derived.Deep.QuietTactic
import Derived.BigQuiet
set_option linter.unusedVariables false
set_option linter.unusedSimpArgs false
set_option linter.unusedSectionVars false
namespace Go.Proofs.YtncnepmgmphanaaGreatDoor
def sg_index : FSig := ⟨[.v (.c (.int .i64)), .v (.c (.int .i64)), .v (.c (.int .i64)), .v (.c (.int .i64))], .v (.c (.int .i64)), [], 0, [], []⟩
def sg_deques : FSig := ⟨[.v (.agg cs_api_Config)], .v (.c (.int .i64)), [], 0, [], []⟩
def sg_Cells : FSig := ⟨[.v (.agg cs_api_Config)], .v (.c (.int .i64)), [], 0, [], []⟩
def sg_Queue : FSig := ⟨[.v (.agg cs_api_Config), .v (.c (.int .i64)), .v (.c (.int .i64))], .v (.agg cs_api_Queue), [], 0, [], []⟩
def sg_task : FSig := ⟨[.v (.agg cs_api_Config), .v (.c (.int .i64)), .v (.c (.int .i64))], .v (.c (.int .i64)), [], 0, [], []⟩
def sg_Slot : FSig := ⟨[.v (.agg cs_api_Config), .v (.c (.int .i64))], .v (.c (.int .i64)), [], 0, [], []⟩
def sg_Sleepers : FSig := ⟨[.v (.agg cs_api_Config), .v (.c (.int .i64))], .v (.c (.int .i64)), [], 0, [], []⟩
def sg_Epoch : FSig := ⟨[.v (.agg cs_api_Config), .v (.c (.int .i64))], .v (.c (.int .i64)), [], 0, [], []⟩
def sg_Bitmap : FSig := ⟨[.v (.agg cs_api_Config), .v (.c (.int .i64))], .v (.c (.int .i64)), [], 0, [], []⟩
def sg_State : FSig := ⟨[.v (.agg cs_api_Config), .v (.c (.int .i64))], .v (.c (.int .i64)), [], 0, [], []⟩
def sg_Level : FSig := ⟨[.v (.agg cs_api_Config), .v (.c (.int .i64))], .v (.c (.int .i64)), [], 0, [], []⟩
def sg_Join : FSig := ⟨[.v (.agg cs_api_Config), .v (.c (.int .i64))], .v (.c (.int .i64)), [], 0, [], []⟩
def sg_Waits : FSig := ⟨[.v (.agg cs_api_Config), .v (.c (.int .i64))], .v (.c (.int .i64)), [], 0, [], []⟩
def sg_Since : FSig := ⟨[.v (.agg cs_api_Config), .v (.c (.int .i64))], .v (.c (.int .i64)), [], 0, [], []⟩
def sg_power : FSig := ⟨[.v (.c (.int .i64))], .v (.c (.int .u64)), [], 0, [], []⟩
def sg_Mask : FSig := ⟨[.v (.c (.int .i64))], .v (.c (.int .u64)), [], 0, [], []⟩
def sg_Bit : FSig := ⟨[.v (.c (.int .u64)), .v (.c (.int .i64))], .v (.c .bool), [], 0, [], []⟩
def sg_High : FSig := ⟨[.v (.c (.int .u64))], .v (.c (.int .i64)), [], 0, [], []⟩
def sg_Nth : FSig := ⟨[.v (.c (.int .u64)), .v (.c (.int .i64))], .v (.c (.int .i64)), [], 0, [], []⟩
def sg_Low : FSig := ⟨[.v (.c (.int .u64))], .v (.c (.int .i64)), [], 0, [], []⟩
def sg_Class : FSig := ⟨[.v (.c (.int .i64)), .v (.c (.int .i64)), .v (.c (.int .i64))], .v (.c (.int .i64)), [], 0, [], []⟩
def sg_Pack : FSig := ⟨[.v (.c (.int .i64)), .v (.c (.int .i64)), .v (.c (.int .i64))], .tup [.c (.int .u64), .c .bool], [], 0, [], []⟩
def sg_Unpack : FSig := ⟨[.v (.c (.int .u64))], .tup [.c (.int .i64), .c (.int .i64), .c (.int .i64)], [], 0, [], []⟩
def sg_Draw : FSig := ⟨[.v (.c (.int .i64)), .v (.c (.int .i64))], .v (.c (.int .i64)), [], 0, [], []⟩
def sg_In : FSig := ⟨[.ptr 66 11 .env, .v (.c (.int .i64))], .v (.c .bool), [], 0, [], []⟩
def sg_Access : FSig := ⟨[.ptr 66 11 .env, .v (.c (.int .i64)), .v (.c (.int .i64)), .v (.c (.int .u64)), .v (.c (.int .u64))], .tup [.c (.int .u64), .c .bool], effM, 0, [], []⟩
def sg_load : FSig := ⟨[.ptr 66 0 .env, .v (.c (.int .i64))], .v (.c (.int .u64)), effM, 0, [], []⟩
def sg_store : FSig := ⟨[.ptr 66 0 .env, .v (.c (.int .i64)), .v (.c (.int .u64))], .tup [], effM, 0, [], []⟩
def sg_cas : FSig := ⟨[.ptr 66 0 .env, .v (.c (.int .i64)), .v (.c (.int .u64)), .v (.c (.int .u64))], .v (.c .bool), effM, 0, [], []⟩
def sg_or : FSig := ⟨[.ptr 66 0 .env, .v (.c (.int .i64)), .v (.c (.int .u64))], .v (.c (.int .u64)), effM, 0, [], []⟩
def sg_and : FSig := ⟨[.ptr 66 0 .env, .v (.c (.int .i64)), .v (.c (.int .u64))], .v (.c (.int .u64)), effM, 0, [], []⟩
def sg_add : FSig := ⟨[.ptr 66 0 .env, .v (.c (.int .i64)), .v (.c (.int .u64))], .v (.c (.int .u64)), effM, 0, [], []⟩
def sg_Task : FSig := ⟨[.ptr 66 0 .env, .v (.c (.int .i64))], .v (.c .bool), [], 0, [], []⟩
def sg_Emit : FSig := ⟨[.ptr 66 0 .env, .v (.c (.int .i64)), .v (.c (.int .i64)), .v (.c (.int .i64)), .v (.c (.int .i64)), .v (.c (.int .i64))], .tup [], effE, 2, [], []⟩
def sg_Fresh : FSig := ⟨[.v (.c (.int .i64)), .v (.c (.int .i64))], .v (.agg cs_api_Record), [], 0, [], []⟩
def sg_end : FSig := ⟨[.v (.c (.int .i64)), .v (.c (.int .i64))], .v (.agg cs_r08_result), [], 0, [], []⟩
def sg_Size : FSig := ⟨[.v (.c (.int .u64)), .v (.c (.int .u64))], .v (.c (.int .i64)), [], 0, [], []⟩
def sg_Ring : FSig := ⟨[.v (.agg cs_api_Queue), .v (.c (.int .u64))], .v (.c (.int .i64)), [], 0, [], []⟩
def sg_RunFrame : FSig := ⟨[.v (.c (.int .i64)), .v (.c (.int .i64))], .v (.agg cs_r08_Frame), [], 1, [], []⟩
def sg_Make : FSig := ⟨[.v (.agg cs_r08_Frame)], .ptr 141 0 .any, [], 1, [], []⟩
def sg_following : FSig := ⟨[.ptr 66 0 .env, .ptr 118 0 (.par 1)], .v (.agg cs_r08_result), effF, 0, [], []⟩
def sg_push : FSig := ⟨[.ptr 66 0 .env, .ptr 118 0 (.par 1)], .v (.agg cs_r08_result), (effM ++ effF), 0, [], []⟩
def sg_pop : FSig := ⟨[.ptr 66 0 .env, .ptr 118 0 (.par 1)], .v (.agg cs_r08_result), (effM ++ effF), 0, [], []⟩
def sg_steal : FSig := ⟨[.ptr 66 0 .env, .ptr 118 0 (.par 1)], .v (.agg cs_r08_result), (effM ++ effF), 0, [], []⟩
def sg_clearBit : FSig := ⟨[.ptr 66 0 .env, .ptr 118 0 (.par 1)], .v (.agg cs_r08_result), (effM ++ effF), 0, [], []⟩
def sg_insert : FSig := ⟨[.ptr 66 0 .env, .ptr 118 0 (.par 1)], .v (.agg cs_r08_result), (effM ++ effF), 0, [], []⟩
def sg_child : FSig := ⟨[.ptr 118 0 (.par 0)], .v (.c (.int .i64)), [], 0, [], []⟩
def sg_lesser : FSig := ⟨[.ptr 118 0 (.par 0)], .v (.c (.int .i64)), [], 0, [], []⟩
def sg_taskOf : FSig := ⟨[.ptr 118 0 (.par 0)], .v (.c (.int .i64)), [], 0, [], []⟩
def sg_remove : FSig := ⟨[.ptr 66 0 .env, .ptr 118 0 (.par 1)], .v (.agg cs_r08_result), (effM ++ effF ++ effE), 2, [], []⟩
def sg_boost : FSig := ⟨[.ptr 66 0 .env, .ptr 118 0 (.par 1)], .v (.agg cs_r08_result), (effM ++ effF ++ effE), 2, [], []⟩
def sg_sweep : FSig := ⟨[.ptr 66 0 .env, .ptr 118 0 (.par 1)], .v (.agg cs_r08_result), (effM ++ effF ++ effE), 2, [], []⟩
def sg_sleep : FSig := ⟨[.ptr 66 0 .env, .ptr 118 0 (.par 1)], .v (.agg cs_r08_result), (effM ++ effF ++ effE), 2, [], []⟩
def sg_wake : FSig := ⟨[.ptr 66 0 .env, .ptr 118 0 (.par 1)], .v (.agg cs_r08_result), (effM ++ effF ++ effE), 2, [], []⟩
def sg_drain : FSig := ⟨[.ptr 66 0 .env, .ptr 118 0 (.par 1)], .v (.agg cs_r08_result), (effM ++ effF), 0, [], []⟩
def sg_backWalk : FSig := ⟨[.ptr 66 0 .env, .ptr 118 0 (.par 1), .v (.c (.int .i64))], .v (.agg cs_r08_result), (effF ++ effE), 2, [], []⟩
def sg_backDrain : FSig := ⟨[.ptr 66 0 .env, .ptr 118 0 (.par 1), .v (.c (.int .i64)), .v (.c (.int .i64))], .v (.agg cs_r08_result), effF, 0, [], []⟩
def sg_backTake : FSig := ⟨[.ptr 118 0 (.par 0), .v (.c (.int .i64)), .v (.c (.int .i64))], .v (.agg cs_r08_result), effF0, 0, [], []⟩
def sg_backWorker : FSig := ⟨[.ptr 66 0 .env, .ptr 118 0 (.par 1), .v (.c (.int .i64)), .v (.c (.int .i64))], .tup [], (effF ++ effE), 2, [], []⟩
def sg_enterDrain : FSig := ⟨[.ptr 118 0 (.par 0)], .tup [.agg cs_r08_Frame, .c .bool], [], 0, [], []⟩
def sg_enterWorker : FSig := ⟨[.ptr 66 0 .env, .ptr 118 0 (.par 1)], .tup [.agg cs_r08_Frame, .c .bool], effF, 1, [], []⟩
def sg_claim : FSig := ⟨[.ptr 66 0 .env, .ptr 118 0 (.par 1)], .v (.agg cs_r08_result), (effM ++ effE ++ effR), 2, [], []⟩
def sg_table : FSig := ⟨[.ptr 66 0 .env, .ptr 118 0 (.par 1)], .v (.agg cs_r08_result), (effM ++ effF ++ effE ++ effR), 2, [], []⟩
def sg_probe : FSig := ⟨[.ptr 66 0 .env, .ptr 118 0 (.par 1)], .v (.agg cs_r08_result), (effM ++ effF), 0, [], []⟩
def ft_index : List (Nat × FSig) := (131, sg_index) :: ([] : List (Nat × FSig))
def ft_deques : List (Nat × FSig) := (82, sg_deques) :: ft_index
def ft_Cells : List (Nat × FSig) := (64, sg_Cells) :: ft_deques
def ft_Queue : List (Nat × FSig) := (83, sg_Queue) :: ft_Cells
def ft_task : List (Nat × FSig) := (171, sg_task) :: ft_Queue
def ft_Slot : List (Nat × FSig) := (142, sg_Slot) :: ft_task
def ft_Sleepers : List (Nat × FSig) := (152, sg_Sleepers) :: ft_Slot
def ft_Epoch : List (Nat × FSig) := (153, sg_Epoch) :: ft_Sleepers
def ft_Bitmap : List (Nat × FSig) := (84, sg_Bitmap) :: ft_Epoch
def ft_State : List (Nat × FSig) := (150, sg_State) :: ft_Bitmap
def ft_Level : List (Nat × FSig) := (148, sg_Level) :: ft_State
def ft_Join : List (Nat × FSig) := (158, sg_Join) :: ft_Level
def ft_Waits : List (Nat × FSig) := (151, sg_Waits) :: ft_Join
def ft_Since : List (Nat × FSig) := (149, sg_Since) :: ft_Waits
def ft_power : List (Nat × FSig) := (137, sg_power) :: ft_Since
def ft_Mask : List (Nat × FSig) := (94, sg_Mask) :: ft_power
def ft_Bit : List (Nat × FSig) := (139, sg_Bit) :: ft_Mask
def ft_High : List (Nat × FSig) := (98, sg_High) :: ft_Bit
def ft_Nth : List (Nat × FSig) := (172, sg_Nth) :: ft_High
def ft_Low : List (Nat × FSig) := (155, sg_Low) :: ft_Nth
def ft_Class : List (Nat × FSig) := (154, sg_Class) :: ft_Low
def ft_Pack : List (Nat × FSig) := (140, sg_Pack) :: ft_Class
def ft_Unpack : List (Nat × FSig) := (143, sg_Unpack) :: ft_Pack
def ft_Draw : List (Nat × FSig) := (26, sg_Draw) :: ft_Unpack
def ft_In : List (Nat × FSig) := (170, sg_In) :: ft_Draw
def ft_Access : List (Nat × FSig) := (136, sg_Access) :: ft_In
def ft_load : List (Nat × FSig) := (97, sg_load) :: ft_Access
def ft_store : List (Nat × FSig) := (100, sg_store) :: ft_load
def ft_cas : List (Nat × FSig) := (99, sg_cas) :: ft_store
def ft_or : List (Nat × FSig) := (93, sg_or) :: ft_cas
def ft_and : List (Nat × FSig) := (138, sg_and) :: ft_or
def ft_add : List (Nat × FSig) := (141, sg_add) :: ft_and
def ft_Task : List (Nat × FSig) := (85, sg_Task) :: ft_add
def ft_Emit : List (Nat × FSig) := (113, sg_Emit) :: ft_Task
def ft_Fresh : List (Nat × FSig) := (65, sg_Fresh) :: ft_Emit
def ft_end : List (Nat × FSig) := (95, sg_end) :: ft_Fresh
def ft_Size : List (Nat × FSig) := (134, sg_Size) :: ft_end
def ft_Ring : List (Nat × FSig) := (135, sg_Ring) :: ft_Size
def ft_RunFrame : List (Nat × FSig) := (133, sg_RunFrame) :: ft_Ring
def ft_Make : List (Nat × FSig) := (54, sg_Make) :: ft_RunFrame
def ft_following : List (Nat × FSig) := (161, sg_following) :: ft_Make
def ft_push : List (Nat × FSig) := (90, sg_push) :: ft_following
def ft_pop : List (Nat × FSig) := (91, sg_pop) :: ft_push
def ft_steal : List (Nat × FSig) := (92, sg_steal) :: ft_pop
def ft_clearBit : List (Nat × FSig) := (96, sg_clearBit) :: ft_steal
def ft_insert : List (Nat × FSig) := (101, sg_insert) :: ft_clearBit
def ft_child : List (Nat × FSig) := (144, sg_child) :: ft_insert
def ft_lesser : List (Nat × FSig) := (145, sg_lesser) :: ft_child
def ft_taskOf : List (Nat × FSig) := (147, sg_taskOf) :: ft_lesser
def ft_remove : List (Nat × FSig) := (102, sg_remove) :: ft_taskOf
def ft_boost : List (Nat × FSig) := (104, sg_boost) :: ft_remove
def ft_sweep : List (Nat × FSig) := (105, sg_sweep) :: ft_boost
def ft_sleep : List (Nat × FSig) := (106, sg_sleep) :: ft_sweep
def ft_wake : List (Nat × FSig) := (107, sg_wake) :: ft_sleep
def ft_drain : List (Nat × FSig) := (109, sg_drain) :: ft_wake
def ft_backWalk : List (Nat × FSig) := (112, sg_backWalk) :: ft_drain
def ft_backDrain : List (Nat × FSig) := (114, sg_backDrain) :: ft_backWalk
def ft_backTake : List (Nat × FSig) := (115, sg_backTake) :: ft_backDrain
def ft_backWorker : List (Nat × FSig) := (117, sg_backWorker) :: ft_backTake
def ft_enterDrain : List (Nat × FSig) := (86, sg_enterDrain) :: ft_backWorker
def ft_enterWorker : List (Nat × FSig) := (88, sg_enterWorker) :: ft_enterDrain
def ft_claim : List (Nat × FSig) := (146, sg_claim) :: ft_enterWorker
def ft_table : List (Nat × FSig) := (103, sg_table) :: ft_claim
def ft_probe : List (Nat × FSig) := (108, sg_probe) :: ft_table
end Go.Proofs.YtncnepmgmphanaaGreatDoor

namespace Go.Proofs.YtncnepmgmphanaaGreatDoor
open Go
def cntTo (x : Nat) : Nat → Nat
  | 0 => 0
  | k + 1 => cntTo x k + (if x.testBit k then 1 else 0)
def cnt (x : Nat) : Nat := cntTo x 64
theorem cntTo_succ (x k : Nat) : cntTo x (k + 1) = cntTo x k + (if x.testBit k then 1 else 0) := rfl
theorem cntTo_le (x k : Nat) : cntTo x k ≤ k := by
  induction k with
  | zero => exact Nat.le_refl _
  | succ k ih => rw [cntTo_succ]; split <;> omega
theorem cntTo_mono (x : Nat) {i j : Nat} (h : i ≤ j) : cntTo x i ≤ cntTo x j := by
  induction j with
  | zero => obtain rfl : i = 0 := by omega
            exact Nat.le_refl _
  | succ j ih =>
    by_cases e : i = j + 1
    · subst e; exact Nat.le_refl _
    · have := ih (by omega); rw [cntTo_succ]; omega
def rep (m : Nat) : Nat → Nat
  | 0 => 0
  | n + 1 => m + 256 * rep m n
def s1 (n x : Nat) : Nat := (x / 2 &&& rep 85 n) + (x &&& rep 85 n)
def s2 (n x : Nat) : Nat := (x / 4 &&& rep 51 n) + (x &&& rep 51 n)
def s3 (n x : Nat) : Nat := (x / 16 + x) &&& rep 15 n
def cb : Nat → Nat → Nat
  | 0, _ => 0
  | n + 1, x => cntTo (x % 256) 8 + 256 * cb n (x / 256)
def ones (x : Nat) : Nat :=
  let a := s3 8 (s2 8 (s1 8 x))
  let b := a + a / 256
  let c := b + b / 65536
  let d := c + c / 4294967296
  d % 128
end Go.Proofs.YtncnepmgmphanaaGreatDoor

namespace Go.Proofs.YtncnepmgmphanaaGreatDoor
open Go
def IsNth (x n k : Nat) : Prop := k < 64 ∧ x.testBit k = true ∧ cntTo x k = n
theorem isNth_unique {x n k k' : Nat} (h : IsNth x n k) (h' : IsNth x n k') : k = k' := by
  have up : ∀ a b, a < b → x.testBit a = true → cntTo x a < cntTo x b := fun a b hab ha => by
    have h1 : cntTo x (a + 1) = cntTo x a + 1 := by
      rw [show cntTo x (a + 1) = cntTo x a + (if x.testBit a then 1 else 0) from rfl, if_pos ha]
    have h2 := cntTo_mono x (show a + 1 ≤ b by omega)
    omega
  obtain ⟨_, h2, h3⟩ := h
  obtain ⟨_, h5, h6⟩ := h'
  rcases Nat.lt_trichotomy k k' with h7 | h7 | h7
  · have := up _ _ h7 h2; omega
  · exact h7
  · have := up _ _ h7 h5; omega
theorem isNth_exists {x n : Nat} (k : Nat) (hk : k ≤ 64) (h : n < cntTo x k) : ∃ i, i < k ∧ IsNth x n i := by
  induction k with
  | zero => simp [cntTo] at h
  | succ k ih =>
    by_cases h1 : n < cntTo x k
    · obtain ⟨i, h2, h3⟩ := ih (by omega) h1
      exact ⟨i, by omega, h3⟩
    · rw [cntTo_succ] at h
      have hb : x.testBit k = true := by
        cases hb : x.testBit k with
        | true => rfl
        | false => rw [hb] at h; simp at h; omega
      rw [hb] at h
      simp at h
      exact ⟨k, by omega, by omega, hb, by omega⟩
def nthI (x : Nat) (n : Int) : Int :=
  match (List.range 64).find? (fun k => x.testBit k && decide ((cntTo x k : Int) = n)) with
  | some k => k
  | none => -1
theorem nthI_of {x n k : Nat} (h : IsNth x n k) : nthI x (n : Int) = (k : Int) := by
  unfold nthI
  split
  · rename_i k' hf
    have h1 := List.find?_some hf
    have h2 := List.mem_of_find?_eq_some hf
    simp at h1 h2
    rw [isNth_unique ⟨h2, h1.1, by omega⟩ h]
  · rename_i hf
    rw [List.find?_eq_none] at hf
    have := hf k (by simpa using h.1)
    simp [h.2.1, h.2.2] at this
theorem nthI_none {x : Nat} {n : Int} (h : n < 0 ∨ (cnt x : Int) ≤ n) : nthI x n = -1 := by
  unfold nthI
  split
  · rename_i k hf
    have h1 := List.find?_some hf
    have h2 := List.mem_of_find?_eq_some hf
    simp at h1 h2
    have h3 : cntTo x (k + 1) = cntTo x k + 1 := by
      rw [show cntTo x (k + 1) = cntTo x k + (if x.testBit k then 1 else 0) from rfl, if_pos h1.1]
    have h4 := cntTo_mono x (show k + 1 ≤ 64 by omega)
    unfold cnt at h
    omega
  · rfl
theorem bit_lt {x k : Nat} (h : x < 18446744073709551616) (hb : x.testBit k = true) : k < 64 := by
  rcases Nat.lt_or_ge k 64 with h1 | h1
  · exact h1
  · rw [Nat.testBit_lt_two_pow (Nat.lt_of_lt_of_le (show x < 2 ^ 64 from h) (Nat.pow_le_pow_right (by decide) h1))] at hb
    cases hb
def hiI (x : Nat) : Int := (Lib.bitLen x : Int) - 1
theorem hiI_of {x k : Nat} (hb : x.testBit k = true) (hn : ∀ j, k < j → x.testBit j = false) (h : x < 18446744073709551616) : hiI x = k := by
  have h1 : 2 ^ k ≤ x := Nat.ge_two_pow_of_testBit hb
  have h2 : x < 2 ^ (k + 1) := Nat.lt_pow_two_of_testBit x (fun j hj => hn j (by omega))
  have h3 := Lib.bitLen_shift k x h1 h
  have h4 : x / 2 ^ k = 1 := by
    rw [Nat.pow_succ] at h2
    apply Nat.div_eq_of_lt_le <;> omega
  rw [h4] at h3
  have h5 : Lib.bitLen 1 = 1 := by decide
  unfold hiI
  omega
theorem hiI_zero : hiI 0 = -1 := by decide
end Go.Proofs.YtncnepmgmphanaaGreatDoor

namespace Go.Proofs.YtncnepmgmphanaaGreatDoor
end Go.Proofs.YtncnepmgmphanaaGreatDoor

namespace Go.Proofs.YtncnepmgmphanaaGreatDoor
open Go.RowKit
theorem wrap_u64_nat (a : Nat) (h : a < 18446744073709551616) : IntKind.u64.wrap (a : Int) = (a : Int) := by
  rw [IntKind.wrap_u64]; omega
end Go.Proofs.YtncnepmgmphanaaGreatDoor

namespace Go.Proofs.YtncnepmgmphanaaGreatDoor
open Go.RowKit
theorem pow_lt64 {j : Nat} (h : j < 64) : 2 ^ j < 18446744073709551616 := by
  have := Nat.pow_lt_pow_right (a := 2) (by omega) h
  simpa using this
theorem power_any (i : Nat) (w : World) (hi : i < 64) :
    Calls Tryz.prog 137 #[.int .i64 i] w fun e w' => e = .returned (.int .u64 ((2 ^ i : Nat) : Int)) ∧ w = w' := by
  obtain ⟨p, hp⟩ : ∃ p, p = 2 ^ i := ⟨_, rfl⟩
  rw [← hp]
  have HP := Lib.hid hp
  clear hp
  go_enter Tryz.func137, Tryz.ntmps137
  go_wp2_with fail
  go_loop [0, 3] (fun t y => ∃ (j k y' : Nat), j + k = i ∧ t = .int .i64 j ∧ y = .int .u64 y' ∧ y' = 2 ^ k) (fun t _ => (intOf t).toNat)
  case atStart => exact ⟨i, 0, 1, by omega, rfl, rfl, rfl⟩
  case round =>
    obtain ⟨j, k, y, hjk, rfl, rfl, hy⟩ := hrel
    have HY := Lib.hid hy
    have HJ := Lib.hid hjk
    have hji : j ≤ i := by omega
    clear hy hjk
    by_cases hj : 0 < j
    · have e1 : IntKind.u64.wrap ((y : Int) * 2) = ((2 * y : Nat) : Int) := by
        have := pow_lt64 (j := k + 1) (by have := HJ.out; omega)
        rw [Nat.pow_succ, ← HY.out] at this
        rw [show (y : Int) * 2 = ((2 * y : Nat) : Int) by omega, wrap_u64_nat _ (by omega)]
      go_wp2_with fail
      go_round
      case rel => exact ⟨j - 1, k + 1, 2 * y, by have := HJ.out; omega, congrArg (Value.int .i64) (by omega), rfl, by rw [Nat.pow_succ, ← HY.out]; omega⟩
      case measure => simp [intOf]; omega
    · obtain rfl : j = 0 := by omega
      go_wp2_with fail
      go_ret
      refine ⟨ret_int ?_, rfl⟩
      rw [HP.out, HY.out, show k = i by have := HJ.out; omega]
theorem bit_in (x i : Nat) (w : World) (hx : x < 18446744073709551616) (hi : i < 64) :
    Calls Tryz.prog 139 #[.int .u64 x, .int .i64 i] w fun e w' => e = .returned (.bool (x.testBit i)) ∧ w = w' := by
  have A := Lib.hid (power_any i w hi)
  have hb : x.testBit i = decide (x / 2 ^ i % 2 = 1) := Nat.testBit_eq_decide_div_mod_eq
  have hp := Nat.two_pow_pos i
  have e1 : ((x : Int) / ((2 ^ i : Nat) : Int)) = ((x / 2 ^ i : Nat) : Int) := by omega
  generalize 2 ^ i = p at *
  obtain ⟨q, hq⟩ : ∃ q, q = x / p := ⟨_, rfl⟩
  rw [← hq] at e1 hb
  have e2 : ((x : Int) / (p : Int)) = (q : Int) := e1
  have hqx : q ≤ x := by rw [hq]; exact Nat.div_le_self _ _
  clear hq e1
  by_cases hq1 : q % 2 = 1
  · rw [hb, decide_eq_true hq1]
    have e3 : (q : Int) % 2 = 1 := by omega
    clear hb hq1
    go_enter Tryz.func139, Tryz.ntmps139
    go_wp2_with fail
    refine A.out.mono ?_; rintro e w1 ⟨rfl, rfl⟩
    go_wp2_with fail
    go_ret
    exact ⟨rfl, rfl⟩
  · rw [hb, decide_eq_false hq1]
    have e3 : (q : Int) % 2 = 0 := by omega
    clear hb hq1
    go_enter Tryz.func139, Tryz.ntmps139
    go_wp2_with fail
    refine A.out.mono ?_; rintro e w1 ⟨rfl, rfl⟩
    go_wp2_with fail
    go_ret
    exact ⟨rfl, rfl⟩
theorem refHigh_any (x : Nat) (w : World) (hx : x < 18446744073709551616) :
    Calls Tryz.prog 98 #[.int .u64 x] w fun e w' => e = .returned (.int .i64 (hiI x)) ∧ w = w' := by
  have HX := Lib.hid hx
  have hstart : ∀ j, 64 ≤ j → x.testBit j = false := fun j hj => by
    cases hb : x.testBit j with
    | false => rfl
    | true => have := bit_lt hx hb; omega
  have HS := Lib.hid hstart
  clear hx hstart
  go_enter Tryz.func98, Tryz.ntmps98
  go_wp2_with fail
  go_loop [3] (fun t => ∃ k : Nat, k ≤ 64 ∧ t = .int .i64 ((k : Int) - 1) ∧ ∀ j, k ≤ j → x.testBit j = false) (fun t => (intOf t + 1).toNat)
  case atStart => exact ⟨64, by omega, rfl, HS.out⟩
  case round =>
    obtain ⟨k, hk, rfl, hn⟩ := hrel
    have HN := Lib.hid hn
    clear hn HS
    by_cases hk0 : 0 < k
    · obtain ⟨m, rfl⟩ : ∃ m, k = m + 1 := ⟨k - 1, by omega⟩
      have e1 : ((m + 1 : Nat) : Int) - 1 = (m : Int) := by omega
      rw [e1]
      have B := Lib.hid (bit_in x m w HX.out (by omega))
      clear e1
      have hm0 : 0 ≤ (m : Int) := by omega
      cases hb : x.testBit m with
      | true =>
        rw [hb] at B
        have hh := Lib.hid (hiI_of hb (fun j hj => HN.out j (by omega)) HX.out)
        clear hb
        go_wp2_with fail
        refine B.out.mono ?_; rintro e w1 ⟨rfl, rfl⟩
        go_wp2_with fail
        go_ret
        exact ⟨ret_int hh.out.symm, rfl⟩
      | false =>
        rw [hb] at B
        have HB := Lib.hid hb
        clear hb
        go_wp2_with fail
        refine B.out.mono ?_; rintro e w1 ⟨rfl, rfl⟩
        go_wp2_with fail
        go_round
        case rel => exact ⟨m, by omega, rfl, fun j hj => by
          by_cases e : j = m
          · rw [e]; exact HB.out
          · exact HN.out j (by omega)⟩
        case measure => simp [intOf]
    · obtain rfl : k = 0 := by omega
      have hx0 : Hid (hiI x = -1) := Lib.hid (by
        have : x = 0 := Nat.eq_of_testBit_eq (fun i => by rw [HN.out i (by omega)]; simp)
        rw [this]; exact hiI_zero)
      go_wp2_with fail
      go_ret
      exact ⟨ret_int hx0.out.symm, rfl⟩
theorem refNth_any (x : Nat) (n : Int) (w : World) (hx : x < 18446744073709551616) (hn0 : -9223372036854775808 ≤ n) (hn1 : n ≤ 9223372036854775807) :
    Calls Tryz.prog 172 #[.int .u64 x, .int .i64 n] w fun e w' => e = .returned (.int .i64 (nthI x n)) ∧ w = w' := by
  have HX := Lib.hid hx
  obtain ⟨r, hr⟩ : ∃ r, r = nthI x n := ⟨_, rfl⟩
  rw [← hr]
  have HR := Lib.hid hr
  have h0 := Lib.hid (show wrap64 (n - (0 : Nat)) = n by unfold wrap64; omega)
  have HN0 := Lib.hid hn0
  have HN1 := Lib.hid hn1
  clear hx hr hn0 hn1
  go_enter Tryz.func172, Tryz.ntmps172
  go_wp2_with fail
  go_loop [1, 5] (fun m t => ∃ (k : Nat) (d : Int), k ≤ 64 ∧ t = .int .i64 k ∧ m = .int .i64 d ∧ d = wrap64 (n - (cntTo x k : Nat)) ∧ ∀ j, j < k → x.testBit j = true → (cntTo x j : Int) ≠ n) (fun _ t => 64 - (intOf t).toNat)
  case atStart => exact ⟨0, n, by omega, rfl, rfl, h0.out.symm, fun j hj => by omega⟩
  case round =>
    obtain ⟨k, d, hk, rfl, rfl, hd, hno⟩ := hrel
    have HD := Lib.hid hd
    have HNo := Lib.hid hno
    have hck := cntTo_le x k
    have HCK := Lib.hid hck
    clear hd hno hck h0
    by_cases hk0 : k < 64
    · have B := Lib.hid (bit_in x k w HX.out (by omega))
      have HS := Lib.hid (cntTo_succ x k)
      cases hb : x.testBit k with
      | true =>
        rw [hb] at B HS
        have HB := Lib.hid hb
        clear hb
        by_cases hd0 : d = 0
        · subst hd0
          have hfin : Hid (r = k) := Lib.hid (by
            have h1 := HD.out
            have h2 := HCK.out
            have h3 := HN0.out
            have h4 := HN1.out
            have : n = (cntTo x k : Nat) := by unfold wrap64 at h1; omega
            rw [HR.out, this]
            exact nthI_of ⟨hk0, HB.out, rfl⟩)
          go_wp2_with fail
          refine B.out.mono ?_; rintro e w1 ⟨rfl, rfl⟩
          go_wp2_with fail
          go_ret
          exact ⟨ret_int hfin.out.symm, rfl⟩
        · have hd1 : (d == 0) = false := by simpa using hd0
          have hnx : Hid (wrap64 (d - 1) = wrap64 (n - (cntTo x (k + 1) : Nat))) := Lib.hid (by
            rw [HS.out, HD.out]
            simp only [if_true]
            unfold wrap64; omega)
          have hne : Hid ((cntTo x k : Int) ≠ n) := Lib.hid (by
            intro e
            apply hd0
            rw [HD.out, ← e]; unfold wrap64; omega)
          obtain ⟨d', hd'⟩ : ∃ d', d' = wrap64 (d - 1) := ⟨_, rfl⟩
          rw [← hd'] at hnx
          have hd2 := hd'.symm
          go_wp2_with fail
          refine B.out.mono ?_; rintro e w1 ⟨rfl, rfl⟩
          go_wp2_with fail
          go_round
          case rel => exact ⟨k + 1, _, by omega, by go_num, rfl, by first | exact hnx.out | (rw [← hnx.out]; exact hd'.symm), fun j hj hbj => by
            by_cases e : j = k
            · rw [e]; exact hne.out
            · exact HNo.out j (by omega) hbj⟩
          case measure => simp [intOf]; omega
      | false =>
        rw [hb] at B HS
        have HB := Lib.hid hb
        clear hb
        go_wp2_with fail
        refine B.out.mono ?_; rintro e w1 ⟨rfl, rfl⟩
        go_wp2_with fail
        go_round
        case rel => exact ⟨k + 1, d, by omega, by go_num, rfl, by rw [HS.out]; exact HD.out, fun j hj hbj => by
          by_cases e : j = k
          · rw [e, HB.out] at hbj; cases hbj
          · exact HNo.out j (by omega) hbj⟩
        case measure => simp [intOf]; omega
    · obtain rfl : k = 64 := by omega
      have hfin : Hid (r = -1) := Lib.hid (by
        rw [HR.out]
        apply nthI_none
        by_cases h1 : n < 0
        · exact .inl h1
        · by_cases h2 : (cnt x : Int) ≤ n
          · exact .inr h2
          · obtain ⟨i, hi, hi2⟩ := isNth_exists (x := x) (n := n.toNat) 64 (Nat.le_refl _) (by unfold cnt at h2; omega)
            exact absurd (by rw [hi2.2.2]; omega) (HNo.out i hi hi2.2.1))
      go_wp2_with fail
      go_ret
      exact ⟨ret_int hfin.out.symm, rfl⟩
end Go.Proofs.YtncnepmgmphanaaGreatDoor

namespace Go.Proofs.YtncnepmgmphanaaGreatDoor
open Go.RowKit
theorem tmod_lo (d : Int) {n : Int} (h : 1 ≤ n) : -n < d.tmod n := by
  rw [Int.tmod_eq_emod]
  have h1 := Int.emod_nonneg d (show n ≠ 0 by omega)
  have h2 := Int.emod_lt_of_pos d (show 0 < n by omega)
  split <;> omega
def drw (d n : Int) : Int := if n < 1 then 0 else d % n
theorem drw_lt {d n : Int} (h : n < 1) : drw d n = 0 := if_pos h
theorem drw_neg {d n : Int} (h : 1 ≤ n) (hm : d.tmod n < 0) : drw d n = d.tmod n + n := by
  unfold drw; rw [if_neg (by omega), Int.tmod_eq_emod]
  rw [Int.tmod_eq_emod] at hm
  have h1 := Int.emod_nonneg d (show n ≠ 0 by omega)
  have h2 := Int.emod_lt_of_pos d (show 0 < n by omega)
  have e : (n.natAbs : Int) = n := by omega
  split at hm
  · omega
  · rw [if_neg (by assumption)]; omega
theorem drw_nonneg {d n : Int} (h : 1 ≤ n) (hm : 0 ≤ d.tmod n) : drw d n = d.tmod n := by
  unfold drw; rw [if_neg (by omega), Int.tmod_eq_emod]
  rw [Int.tmod_eq_emod] at hm
  have h1 := Int.emod_nonneg d (show n ≠ 0 by omega)
  have h2 := Int.emod_lt_of_pos d (show 0 < n by omega)
  have e : (n.natAbs : Int) = n := by omega
  split at hm
  · rw [if_pos (by assumption)]; omega
  · omega
theorem wrap_drw {d n : Int} (h : 1 ≤ n) (hn : n ≤ 9223372036854775807) (hm : d.tmod n < 0) : wrap64 (d.tmod n + n) = d.tmod n + n := by
  have := tmod_lo d h
  unfold wrap64; omega
theorem drw_bd (d n : Int) : 0 ≤ drw d n ∧ (1 ≤ n → drw d n < n) := by
  unfold drw
  split
  · omega
  · exact ⟨Int.emod_nonneg d (by omega), fun _ => Int.emod_lt_of_pos d (by omega)⟩
theorem refDraw_any (n d : Int) (w : World) (hn : n ≤ 9223372036854775807) :
   Calls Tryz.prog 26 #[.int .i64 d, .int .i64 n] w fun e w' => e = .returned (.int .i64 (drw d n)) ∧ w = w' := by
  have hn' : Hid (n ≤ 9223372036854775807) := hn
  clear hn
  go_enter Tryz.func26, Tryz.ntmps26
  go_wp2
  · go_ret
    exact ⟨ret_int (drw_lt (by assumption)).symm, rfl⟩
  · go_ret
    exact ⟨ret_int (by rw [drw_neg (by assumption) (by assumption)]; exact wrap_drw (by assumption) hn'.out (by assumption)), rfl⟩
  · go_ret
    exact ⟨ret_int (drw_nonneg (by assumption) (by assumption)).symm, rfl⟩
end Go.Proofs.YtncnepmgmphanaaGreatDoor
