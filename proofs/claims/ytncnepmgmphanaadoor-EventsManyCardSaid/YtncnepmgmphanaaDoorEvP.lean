/- Events: their forms, which events are valid. Plain; no condition. (Printed by wip/gen_evforms.py.) -/
import Derived.Test.YtncnepmgmphanaaDoorKit
namespace Go.Proofs.YtncnepmgmphanaaDoor
set_option linter.unusedVariables false

structure EForm where
  word : List UInt8
  t : Bool
  o : Bool
  l : Bool
deriving DecidableEq

structure Ev where
  kind : Int
  worker : Int
  task : Int
  other : Int
  level : Int
deriving DecidableEq

def evForms : List EForm := [⟨[97, 99, 99, 101, 112, 116], true, true, true⟩, ⟨[114, 101, 106, 101, 99, 116], false, true, true⟩, ⟨[115, 112, 97, 119, 110], true, true, true⟩, ⟨[114, 101, 102, 117, 115, 101], true, false, false⟩, ⟨[115, 116, 97, 114, 116], true, false, false⟩, ⟨[98, 108, 111, 99, 107], true, true, false⟩, ⟨[115, 101, 116, 116, 108, 101], true, false, true⟩, ⟨[106, 111, 105, 110], true, true, false⟩, ⟨[114, 101, 115, 117, 109, 101], true, false, false⟩, ⟨[102, 105, 110, 105, 115, 104], true, false, false⟩, ⟨[98, 111, 111, 115, 116], true, false, true⟩, ⟨[97, 103, 101], true, false, true⟩, ⟨[114, 101, 109, 111, 118, 101], true, false, false⟩, ⟨[115, 116, 101, 97, 108], true, true, true⟩, ⟨[115, 107, 105, 112], true, false, false⟩, ⟨[112, 97, 114, 107], false, false, false⟩, ⟨[117, 110, 112, 97, 114, 107], false, true, false⟩, ⟨[119, 97, 107, 101], false, true, false⟩, ⟨[110, 111, 114, 111, 111, 109], true, false, true⟩]
def formAt (i : Nat) : EForm := evForms.getD i ⟨[], false, false, false⟩

/-- A field is in its range, or 0 where the line does not bear it. -/
def fldOK (v : Int) (u : Bool) : Bool := decide (0 ≤ v) && decide (v ≤ 256) && (u || decide (v = 0))
def validB (e : Ev) : Bool :=
  decide (1 ≤ e.kind) && decide (e.kind ≤ 19) && fldOK e.worker true && fldOK e.task (formAt (e.kind - 1).toNat).t && fldOK e.other (formAt (e.kind - 1).toNat).o && fldOK e.level (formAt (e.kind - 1).toNat).l

/-- The cells of the two tables. -/
def formsL : List Value := [.string ⟨#[97, 99, 99, 101, 112, 116]⟩, .bool true, .bool true, .bool true, .string ⟨#[114, 101, 106, 101, 99, 116]⟩, .bool false, .bool true, .bool true, .string ⟨#[115, 112, 97, 119, 110]⟩, .bool true, .bool true, .bool true, .string ⟨#[114, 101, 102, 117, 115, 101]⟩, .bool true, .bool false, .bool false, .string ⟨#[115, 116, 97, 114, 116]⟩, .bool true, .bool false, .bool false, .string ⟨#[98, 108, 111, 99, 107]⟩, .bool true, .bool true, .bool false, .string ⟨#[115, 101, 116, 116, 108, 101]⟩, .bool true, .bool false, .bool true, .string ⟨#[106, 111, 105, 110]⟩, .bool true, .bool true, .bool false, .string ⟨#[114, 101, 115, 117, 109, 101]⟩, .bool true, .bool false, .bool false, .string ⟨#[102, 105, 110, 105, 115, 104]⟩, .bool true, .bool false, .bool false, .string ⟨#[98, 111, 111, 115, 116]⟩, .bool true, .bool false, .bool true, .string ⟨#[97, 103, 101]⟩, .bool true, .bool false, .bool true, .string ⟨#[114, 101, 109, 111, 118, 101]⟩, .bool true, .bool false, .bool false, .string ⟨#[115, 116, 101, 97, 108]⟩, .bool true, .bool true, .bool true, .string ⟨#[115, 107, 105, 112]⟩, .bool true, .bool false, .bool false, .string ⟨#[112, 97, 114, 107]⟩, .bool false, .bool false, .bool false, .string ⟨#[117, 110, 112, 97, 114, 107]⟩, .bool false, .bool true, .bool false, .string ⟨#[119, 97, 107, 101]⟩, .bool false, .bool true, .bool false, .string ⟨#[110, 111, 114, 111, 111, 109]⟩, .bool true, .bool false, .bool true]
def refFormsL : List Value := [.int .i64 1, .string ⟨#[97, 99, 99, 101, 112, 116]⟩, .bool true, .bool true, .bool true, .int .i64 2, .string ⟨#[114, 101, 106, 101, 99, 116]⟩, .bool false, .bool true, .bool true, .int .i64 3, .string ⟨#[115, 112, 97, 119, 110]⟩, .bool true, .bool true, .bool true, .int .i64 4, .string ⟨#[114, 101, 102, 117, 115, 101]⟩, .bool true, .bool false, .bool false, .int .i64 5, .string ⟨#[115, 116, 97, 114, 116]⟩, .bool true, .bool false, .bool false, .int .i64 6, .string ⟨#[98, 108, 111, 99, 107]⟩, .bool true, .bool true, .bool false, .int .i64 7, .string ⟨#[115, 101, 116, 116, 108, 101]⟩, .bool true, .bool false, .bool true, .int .i64 8, .string ⟨#[106, 111, 105, 110]⟩, .bool true, .bool true, .bool false, .int .i64 9, .string ⟨#[114, 101, 115, 117, 109, 101]⟩, .bool true, .bool false, .bool false, .int .i64 10, .string ⟨#[102, 105, 110, 105, 115, 104]⟩, .bool true, .bool false, .bool false, .int .i64 11, .string ⟨#[98, 111, 111, 115, 116]⟩, .bool true, .bool false, .bool true, .int .i64 12, .string ⟨#[97, 103, 101]⟩, .bool true, .bool false, .bool true, .int .i64 13, .string ⟨#[114, 101, 109, 111, 118, 101]⟩, .bool true, .bool false, .bool false, .int .i64 14, .string ⟨#[115, 116, 101, 97, 108]⟩, .bool true, .bool true, .bool true, .int .i64 15, .string ⟨#[115, 107, 105, 112]⟩, .bool true, .bool false, .bool false, .int .i64 16, .string ⟨#[112, 97, 114, 107]⟩, .bool false, .bool false, .bool false, .int .i64 17, .string ⟨#[117, 110, 112, 97, 114, 107]⟩, .bool false, .bool true, .bool false, .int .i64 18, .string ⟨#[119, 97, 107, 101]⟩, .bool false, .bool true, .bool false, .int .i64 19, .string ⟨#[110, 111, 114, 111, 111, 109]⟩, .bool true, .bool false, .bool true]
theorem nat19 {i : Nat} (h : i < 19) : i = 0 ∨ i = 1 ∨ i = 2 ∨ i = 3 ∨ i = 4 ∨ i = 5 ∨ i = 6 ∨ i = 7 ∨ i = 8 ∨ i = 9 ∨ i = 10 ∨ i = 11 ∨ i = 12 ∨ i = 13 ∨ i = 14 ∨ i = 15 ∨ i = 16 ∨ i = 17 ∨ i = 18 := by omega
theorem formsL_at {i : Nat} (h : i < 19) : formsL[i * 4]? = some (.string ⟨(formAt i).word.toArray⟩) ∧ formsL[i * 4 + 1]? = some (.bool (formAt i).t) ∧ formsL[i * 4 + 2]? = some (.bool (formAt i).o) ∧ formsL[i * 4 + 3]? = some (.bool (formAt i).l) := by
  rcases nat19 h with rfl | rfl | rfl | rfl | rfl | rfl | rfl | rfl | rfl | rfl | rfl | rfl | rfl | rfl | rfl | rfl | rfl | rfl | rfl <;> exact ⟨rfl, rfl, rfl, rfl⟩
theorem refFormsL_at {i : Nat} (h : i < 19) : refFormsL[i * 5]? = some (.int .i64 ((i : Int) + 1)) ∧ refFormsL[i * 5 + 1]? = some (.string ⟨(formAt i).word.toArray⟩) ∧ refFormsL[i * 5 + 2]? = some (.bool (formAt i).t) ∧ refFormsL[i * 5 + 3]? = some (.bool (formAt i).o) ∧ refFormsL[i * 5 + 4]? = some (.bool (formAt i).l) := by
  rcases nat19 h with rfl | rfl | rfl | rfl | rfl | rfl | rfl | rfl | rfl | rfl | rfl | rfl | rfl | rfl | rfl | rfl | rfl | rfl | rfl <;> exact ⟨rfl, rfl, rfl, rfl, rfl⟩
end Go.Proofs.YtncnepmgmphanaaDoor
