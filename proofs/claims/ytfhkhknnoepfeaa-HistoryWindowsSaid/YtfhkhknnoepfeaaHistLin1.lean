/- Which operations are well-formed, walked. -/
import Derived.Test.YtfhkhknnoepfeaaDqMem
import Derived.Test.YtfhkhknnoepfeaaHistLinP
namespace Go.Proofs.Ytfhkhknnoepfeaa
open Go.RowKit
set_option linter.unusedVariables false

def HOp.v (o : HOp) : Value := .agg #[.int .i64 o.kind, .int .i64 o.mach, .int .i64 o.frm, .int .i64 o.to, .int .i64 o.code, .int .i64 o.value]

set_option maxRecDepth 100000 in
theorem formed_any (w : World) (o : HOp) :
    Calls Try.prog 16 #[o.v] w fun e w' => e = .returned (.bool o.formed) ∧ Only [] w w' := by
  obtain ⟨k, m, f, t, c, v⟩ := o
  simp only [HOp.v, HOp.formed]
  go_enter Try.func16, Try.ntmps16
  go_wp2_with fail
  all_goals (go_ret; refine ⟨?_, (Only.refl _ _).alloc _⟩)
  all_goals simp only [beq_iff_eq, beq_eq_false_iff_ne] at *
  all_goals refine congrArg (fun b => Ending.returned (Value.bool b)) ?_
  all_goals rw [Bool.eq_iff_iff]
  all_goals simp
  all_goals omega

set_option maxRecDepth 100000 in
theorem refFormed_any (w : World) (o : HOp) :
    Calls Try.prog 20 #[o.v] w fun e w' => e = .returned (.bool o.formed) ∧ Only [] w w' := by
  obtain ⟨k, m, f, t, c, v⟩ := o
  simp only [HOp.v, HOp.formed]
  go_enter Try.func20, Try.ntmps20
  go_wp2_with fail
  all_goals (go_ret; refine ⟨?_, (Only.refl _ _).alloc _⟩)
  all_goals simp only [beq_iff_eq, beq_eq_false_iff_ne] at *
  all_goals refine congrArg (fun b => Ending.returned (Value.bool b)) ?_
  all_goals rw [Bool.eq_iff_iff]
  all_goals simp
  all_goals omega
end Go.Proofs.Ytfhkhknnoepfeaa
