/- The tables of forms, the fields of an event and which of them are used: walked. No condition. -/
import Derived.Test.YtncnepmgmphanaaDoorEvP
import Derived.Test.YtncnepmgmphanaaDoorProg
import Derived.WalkSpells
import Derived.WalkLawsBesides
namespace Go.Proofs.YtncnepmgmphanaaDoor
open Go.RowKit
set_option linter.unusedVariables false

def evV (e : Ev) : Value := .agg #[.int .i64 e.kind, .int .i64 e.worker, .int .i64 e.task, .int .i64 e.other, .int .i64 e.level]
def fmV (f : EForm) : Value := .agg #[.string ⟨f.word.toArray⟩, .bool f.t, .bool f.o, .bool f.l]

set_option maxRecDepth 100000 in
set_option maxHeartbeats 4000000 in
theorem forms_any (w : World) : Calls Tryd.prog 11 #[] w fun e w' => e = .returned (.slice (some ⟨w.heap.size, 0, none⟩) 19 19) ∧ w' = w.alloc (.cells formsL.toArray 41) := by
  go_enter Tryd.func11, Tryd.ntmps11
  go_wp2
  go_ret
  exact ⟨rfl, rfl⟩

set_option maxRecDepth 100000 in
set_option maxHeartbeats 4000000 in
theorem refForms_any (w : World) : Calls Tryd.prog 14 #[] w fun e w' => e = .returned (.slice (some ⟨w.heap.size, 0, none⟩) 19 19) ∧ w' = w.alloc (.cells refFormsL.toArray 48) := by
  go_enter Tryd.func14, Tryd.ntmps14
  go_wp2
  go_ret
  exact ⟨rfl, rfl⟩

theorem used_any (w : World) (f : EForm) : Calls Tryd.prog 12 #[fmV f] w fun e w' => e = .returned (.agg #[.bool true, .bool f.t, .bool f.o, .bool f.l]) ∧ Only [] w w' := by
  unfold fmV
  go_enter Tryd.func12, Tryd.ntmps12
  go_wp2
  exact bodyPost_ret (v := .agg #[.bool true, .bool f.t, .bool f.o, .bool f.l]) (by simp [results, Tryd.results12, go_sem]) rfl ⟨rfl, ((Only.refl _ _).alloc _).alloc _⟩

theorem fields_any (w : World) (v : Ev) : Calls Tryd.prog 13 #[evV v] w fun e w' => e = .returned (.agg #[.int .i64 v.worker, .int .i64 v.task, .int .i64 v.other, .int .i64 v.level]) ∧ Only [] w w' := by
  unfold evV
  go_enter Tryd.func13, Tryd.ntmps13
  go_wp2
  exact bodyPost_ret (v := .agg #[.int .i64 v.worker, .int .i64 v.task, .int .i64 v.other, .int .i64 v.level]) (by simp [results, Tryd.results13, go_sem]) rfl ⟨rfl, ((Only.refl _ _).alloc _).alloc _⟩
end Go.Proofs.YtncnepmgmphanaaDoor
