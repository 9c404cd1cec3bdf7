/-
  No cell of these rows narrows 'for every input' (looked for: loops, veiled, ifaces, maps, wideKeys, modest, calm, conditions, laid).
  DERIVED. THE GIVEN ROWS OF THIS SEAT. 8 by the template 'for every input the law returns true; each argument reads behind the call as it read before'; 0 by the template 'total and deterministic' (their statements: YtfhmphbfngdkeaaTotals.lean).
  GIVEN WITH THE SEED: the statements are not yours to turn. If you find one false, say at which input.
  Laid BY PROGRAM, IN A SANDBOX (cutbox-rows.mjs): the forced cells as the released guide's own fill.sh prints them over the translation 910db56886943c26… (all of the seat's roots in one cut). By AI agents, Wed Nov 11 2026. No macro, syntax, notation, axiom, sorry.
-/
import Derived.Test.YtfhmphbfngdkeaaChecked
import GoSem.Claim
import GoSem.ClaimJoined
import GoSem.ClaimMapViews
import Derived.JoinedTies
import Derived.KernelRfl
namespace Go.Proofs.Ytfhmphbfngdkeaa
/- THE CELL 'sum', in the pinned program and in every row, IS THE sha256 OF THE DUMP (.gsa) THAT YtfhmphbfngdkeaaProg.lean LOADS. Nothing in Lean hashes anything: it is a label: what it is worth is what the hold of that sum in a sandbox is worth. -/
noncomputable def Try.pinned : Pinned := { name := "ytfhmphbfngdkeaa", sum := "910db56886943c260e44db77f9bb29eff83215d47cd93ee908eb84ab6bde605f", checked := Try.checked }
namespace Rows
def none {H : Type} : Left H := { results := [], args := [] }

/-- 'worksteallaw04.ScriptDecodes': WHATEVER THE INPUT: true; the input reads as it did. -/
def scriptDecodesSpec : ChangeSpec := { name := "scriptDecodes", fn := fun _ => fun
  | [d] => { results := [.lit (.bool true)], args := [d] }
  | _ => none }
def scriptDecodesRow : OpenClaim := { program := "ytfhmphbfngdkeaa", sum := "910db56886943c260e44db77f9bb29eff83215d47cd93ee908eb84ab6bde605f", func := "worksteal/worksteallaw04.ScriptDecodes", spec := "scriptDecodes", apart := false }
def ScriptDecodesSaid : Prop := scriptDecodesRow.holds Try.pinned (OpenSpec.ofChange scriptDecodesSpec)

/-- ITS FALSE NEIGHBOUR: 'it returns false'. Refute it at one input. -/
def scriptDecodesWrong : ChangeSpec := { name := "scriptDecodes", fn := fun _ => fun
  | [d] => { results := [.lit (.bool false)], args := [d] }
  | _ => none }
def ScriptDecodesWrongFalsely : Prop := scriptDecodesRow.holds Try.pinned (OpenSpec.ofChange scriptDecodesWrong)

/-- 'worksteallaw04.ScriptRounds': WHATEVER THE INPUT: true; the input reads as it did. -/
def scriptRoundsSpec : ChangeSpec := { name := "scriptRounds", fn := fun _ => fun
  | [d1, d2, d3, d4, d5] => { results := [.lit (.bool true)], args := [d1, d2, d3, d4, d5] }
  | _ => none }
def scriptRoundsRow : OpenClaim := { program := "ytfhmphbfngdkeaa", sum := "910db56886943c260e44db77f9bb29eff83215d47cd93ee908eb84ab6bde605f", func := "worksteal/worksteallaw04.ScriptRounds", spec := "scriptRounds", apart := false }
def ScriptRoundsSaid : Prop := scriptRoundsRow.holds Try.pinned (OpenSpec.ofChange scriptRoundsSpec)

/-- ITS FALSE NEIGHBOUR: 'it returns false'. Refute it at one input. -/
def scriptRoundsWrong : ChangeSpec := { name := "scriptRounds", fn := fun _ => fun
  | [d1, d2, d3, d4, d5] => { results := [.lit (.bool false)], args := [d1, d2, d3, d4, d5] }
  | _ => none }
def ScriptRoundsWrongFalsely : Prop := scriptRoundsRow.holds Try.pinned (OpenSpec.ofChange scriptRoundsWrong)

/-- 'worksteallaw04.ScriptMore': WHATEVER THE INPUT: true; the input reads as it did. -/
def scriptMoreSpec : ChangeSpec := { name := "scriptMore", fn := fun _ => fun
  | [d1, d2, d3, d4] => { results := [.lit (.bool true)], args := [d1, d2, d3, d4] }
  | _ => none }
def scriptMoreRow : OpenClaim := { program := "ytfhmphbfngdkeaa", sum := "910db56886943c260e44db77f9bb29eff83215d47cd93ee908eb84ab6bde605f", func := "worksteal/worksteallaw04.ScriptMore", spec := "scriptMore", apart := false }
def ScriptMoreSaid : Prop := scriptMoreRow.holds Try.pinned (OpenSpec.ofChange scriptMoreSpec)

/-- ITS FALSE NEIGHBOUR: 'it returns false'. Refute it at one input. -/
def scriptMoreWrong : ChangeSpec := { name := "scriptMore", fn := fun _ => fun
  | [d1, d2, d3, d4] => { results := [.lit (.bool false)], args := [d1, d2, d3, d4] }
  | _ => none }
def ScriptMoreWrongFalsely : Prop := scriptMoreRow.holds Try.pinned (OpenSpec.ofChange scriptMoreWrong)

/-- 'worksteallaw04.ScriptMachines': WHATEVER THE INPUT: true; the input reads as it did. -/
def scriptMachinesSpec : ChangeSpec := { name := "scriptMachines", fn := fun _ => fun
  | [d1, d2, d3] => { results := [.lit (.bool true)], args := [d1, d2, d3] }
  | _ => none }
def scriptMachinesRow : OpenClaim := { program := "ytfhmphbfngdkeaa", sum := "910db56886943c260e44db77f9bb29eff83215d47cd93ee908eb84ab6bde605f", func := "worksteal/worksteallaw04.ScriptMachines", spec := "scriptMachines", apart := false }
def ScriptMachinesSaid : Prop := scriptMachinesRow.holds Try.pinned (OpenSpec.ofChange scriptMachinesSpec)

/-- ITS FALSE NEIGHBOUR: 'it returns false'. Refute it at one input. -/
def scriptMachinesWrong : ChangeSpec := { name := "scriptMachines", fn := fun _ => fun
  | [d1, d2, d3] => { results := [.lit (.bool false)], args := [d1, d2, d3] }
  | _ => none }
def ScriptMachinesWrongFalsely : Prop := scriptMachinesRow.holds Try.pinned (OpenSpec.ofChange scriptMachinesWrong)

/-- 'worksteallaw04.ScriptEncodes': WHATEVER THE INPUT: true; the input reads as it did. -/
def scriptEncodesSpec : ChangeSpec := { name := "scriptEncodes", fn := fun _ => fun
  | [d] => { results := [.lit (.bool true)], args := [d] }
  | _ => none }
def scriptEncodesRow : OpenClaim := { program := "ytfhmphbfngdkeaa", sum := "910db56886943c260e44db77f9bb29eff83215d47cd93ee908eb84ab6bde605f", func := "worksteal/worksteallaw04.ScriptEncodes", spec := "scriptEncodes", apart := false }
def ScriptEncodesSaid : Prop := scriptEncodesRow.holds Try.pinned (OpenSpec.ofChange scriptEncodesSpec)

/-- ITS FALSE NEIGHBOUR: 'it returns false'. Refute it at one input. -/
def scriptEncodesWrong : ChangeSpec := { name := "scriptEncodes", fn := fun _ => fun
  | [d] => { results := [.lit (.bool false)], args := [d] }
  | _ => none }
def ScriptEncodesWrongFalsely : Prop := scriptEncodesRow.holds Try.pinned (OpenSpec.ofChange scriptEncodesWrong)

/-- 'worksteallaw04.ScriptRound': WHATEVER THE INPUT: true; the input reads as it did. -/
def scriptRoundSpec : ChangeSpec := { name := "scriptRound", fn := fun _ => fun
  | [d1, d2] => { results := [.lit (.bool true)], args := [d1, d2] }
  | _ => none }
def scriptRoundRow : OpenClaim := { program := "ytfhmphbfngdkeaa", sum := "910db56886943c260e44db77f9bb29eff83215d47cd93ee908eb84ab6bde605f", func := "worksteal/worksteallaw04.ScriptRound", spec := "scriptRound", apart := false }
def ScriptRoundSaid : Prop := scriptRoundRow.holds Try.pinned (OpenSpec.ofChange scriptRoundSpec)

/-- ITS FALSE NEIGHBOUR: 'it returns false'. Refute it at one input. -/
def scriptRoundWrong : ChangeSpec := { name := "scriptRound", fn := fun _ => fun
  | [d1, d2] => { results := [.lit (.bool false)], args := [d1, d2] }
  | _ => none }
def ScriptRoundWrongFalsely : Prop := scriptRoundRow.holds Try.pinned (OpenSpec.ofChange scriptRoundWrong)

/-- 'worksteallaw04.ScriptFair': WHATEVER THE INPUT: true; the input reads as it did. -/
def scriptFairSpec : ChangeSpec := { name := "scriptFair", fn := fun _ => fun
  | [d1, d2, d3, d4, d5, d6] => { results := [.lit (.bool true)], args := [d1, d2, d3, d4, d5, d6] }
  | _ => none }
def scriptFairRow : OpenClaim := { program := "ytfhmphbfngdkeaa", sum := "910db56886943c260e44db77f9bb29eff83215d47cd93ee908eb84ab6bde605f", func := "worksteal/worksteallaw04.ScriptFair", spec := "scriptFair", apart := false }
def ScriptFairSaid : Prop := scriptFairRow.holds Try.pinned (OpenSpec.ofChange scriptFairSpec)

/-- ITS FALSE NEIGHBOUR: 'it returns false'. Refute it at one input. -/
def scriptFairWrong : ChangeSpec := { name := "scriptFair", fn := fun _ => fun
  | [d1, d2, d3, d4, d5, d6] => { results := [.lit (.bool false)], args := [d1, d2, d3, d4, d5, d6] }
  | _ => none }
def ScriptFairWrongFalsely : Prop := scriptFairRow.holds Try.pinned (OpenSpec.ofChange scriptFairWrong)

/-- 'worksteallaw04.ScriptEnough': WHATEVER THE INPUT: true; the input reads as it did. -/
def scriptEnoughSpec : ChangeSpec := { name := "scriptEnough", fn := fun _ => fun
  | [d1, d2, d3, d4] => { results := [.lit (.bool true)], args := [d1, d2, d3, d4] }
  | _ => none }
def scriptEnoughRow : OpenClaim := { program := "ytfhmphbfngdkeaa", sum := "910db56886943c260e44db77f9bb29eff83215d47cd93ee908eb84ab6bde605f", func := "worksteal/worksteallaw04.ScriptEnough", spec := "scriptEnough", apart := false }
def ScriptEnoughSaid : Prop := scriptEnoughRow.holds Try.pinned (OpenSpec.ofChange scriptEnoughSpec)

/-- ITS FALSE NEIGHBOUR: 'it returns false'. Refute it at one input. -/
def scriptEnoughWrong : ChangeSpec := { name := "scriptEnough", fn := fun _ => fun
  | [d1, d2, d3, d4] => { results := [.lit (.bool false)], args := [d1, d2, d3, d4] }
  | _ => none }
def ScriptEnoughWrongFalsely : Prop := scriptEnoughRow.holds Try.pinned (OpenSpec.ofChange scriptEnoughWrong)

/- THE SECOND FORM. 'bulk': how many values and letters a reading holds, each counted each time it is reached (what is shared counts as often as it is met; a slice's spare places count too). A statement '..UptoSaid' is the law's where the arguments, and the package variables that the reading takes, are together of bulk at most 1048576: NARROWER than '..Said'. Prove '..Said' where nothing that the law and all that it calls make is longer than what came in: it says more and counts as full. Else prove '..UptoSaid'. A law counts once. -/
mutual
def uptoBulk {H : Type} : DataW H → Nat
  | .lit (.string bytes) => bytes.length + 1
  | .lit _ => 1
  | .nil => 1
  | .ptr d => uptoBulk d + 1
  | .slice elems spare => uptoBulkAll elems + uptoBulkAll spare + 1
  | .agg parts => uptoBulkAll parts + 1
  | .iface _ d => uptoBulk d + 1
  | .map entries => uptoBulkEntries entries + 1
  | .held _ => 1
def uptoBulkAll {H : Type} : List (DataW H) → Nat
  | [] => 0
  | d :: r => uptoBulk d + uptoBulkAll r
def uptoBulkEntries {H : Type} : List (Lit × DataW H) → Nat
  | [] => 0
  | x :: r => uptoBulkEntry x + uptoBulkEntries r
def uptoBulkEntry {H : Type} : Lit × DataW H → Nat
  | (.string bytes, d) => bytes.length + uptoBulk d + 1
  | (_, d) => uptoBulk d + 1
 end
def uptoSmall : (H : Type) → List (DataW H) → Bool := fun _ ds => decide (uptoBulkAll ds ≤ 1048576)
def OpenSpec.upto (s : _root_.Go.ChangeSpec) : _root_.Go.OpenSpec := { _root_.Go.OpenSpec.ofChange s with cond := some uptoSmall }

/-- 'worksteallaw04.ScriptDecodes', WHERE WHAT IT READS IS OF BULK AT MOST 1048576: true; the input reads as it did. -/
def scriptDecodesUptoRow : OpenClaim := { program := "ytfhmphbfngdkeaa", sum := "910db56886943c260e44db77f9bb29eff83215d47cd93ee908eb84ab6bde605f", func := "worksteal/worksteallaw04.ScriptDecodes", spec := "scriptDecodes", apart := false, narrowed := true }
def ScriptDecodesUptoSaid : Prop := scriptDecodesUptoRow.holds Try.pinned (OpenSpec.upto scriptDecodesSpec)

/-- 'worksteallaw04.ScriptRounds', WHERE WHAT IT READS IS OF BULK AT MOST 1048576: true; the input reads as it did. -/
def scriptRoundsUptoRow : OpenClaim := { program := "ytfhmphbfngdkeaa", sum := "910db56886943c260e44db77f9bb29eff83215d47cd93ee908eb84ab6bde605f", func := "worksteal/worksteallaw04.ScriptRounds", spec := "scriptRounds", apart := false, narrowed := true }
def ScriptRoundsUptoSaid : Prop := scriptRoundsUptoRow.holds Try.pinned (OpenSpec.upto scriptRoundsSpec)

/-- 'worksteallaw04.ScriptMore', WHERE WHAT IT READS IS OF BULK AT MOST 1048576: true; the input reads as it did. -/
def scriptMoreUptoRow : OpenClaim := { program := "ytfhmphbfngdkeaa", sum := "910db56886943c260e44db77f9bb29eff83215d47cd93ee908eb84ab6bde605f", func := "worksteal/worksteallaw04.ScriptMore", spec := "scriptMore", apart := false, narrowed := true }
def ScriptMoreUptoSaid : Prop := scriptMoreUptoRow.holds Try.pinned (OpenSpec.upto scriptMoreSpec)

/-- 'worksteallaw04.ScriptMachines', WHERE WHAT IT READS IS OF BULK AT MOST 1048576: true; the input reads as it did. -/
def scriptMachinesUptoRow : OpenClaim := { program := "ytfhmphbfngdkeaa", sum := "910db56886943c260e44db77f9bb29eff83215d47cd93ee908eb84ab6bde605f", func := "worksteal/worksteallaw04.ScriptMachines", spec := "scriptMachines", apart := false, narrowed := true }
def ScriptMachinesUptoSaid : Prop := scriptMachinesUptoRow.holds Try.pinned (OpenSpec.upto scriptMachinesSpec)

/-- 'worksteallaw04.ScriptEncodes', WHERE WHAT IT READS IS OF BULK AT MOST 1048576: true; the input reads as it did. -/
def scriptEncodesUptoRow : OpenClaim := { program := "ytfhmphbfngdkeaa", sum := "910db56886943c260e44db77f9bb29eff83215d47cd93ee908eb84ab6bde605f", func := "worksteal/worksteallaw04.ScriptEncodes", spec := "scriptEncodes", apart := false, narrowed := true }
def ScriptEncodesUptoSaid : Prop := scriptEncodesUptoRow.holds Try.pinned (OpenSpec.upto scriptEncodesSpec)

/-- 'worksteallaw04.ScriptRound', WHERE WHAT IT READS IS OF BULK AT MOST 1048576: true; the input reads as it did. -/
def scriptRoundUptoRow : OpenClaim := { program := "ytfhmphbfngdkeaa", sum := "910db56886943c260e44db77f9bb29eff83215d47cd93ee908eb84ab6bde605f", func := "worksteal/worksteallaw04.ScriptRound", spec := "scriptRound", apart := false, narrowed := true }
def ScriptRoundUptoSaid : Prop := scriptRoundUptoRow.holds Try.pinned (OpenSpec.upto scriptRoundSpec)

/-- 'worksteallaw04.ScriptFair', WHERE WHAT IT READS IS OF BULK AT MOST 1048576: true; the input reads as it did. -/
def scriptFairUptoRow : OpenClaim := { program := "ytfhmphbfngdkeaa", sum := "910db56886943c260e44db77f9bb29eff83215d47cd93ee908eb84ab6bde605f", func := "worksteal/worksteallaw04.ScriptFair", spec := "scriptFair", apart := false, narrowed := true }
def ScriptFairUptoSaid : Prop := scriptFairUptoRow.holds Try.pinned (OpenSpec.upto scriptFairSpec)

/-- 'worksteallaw04.ScriptEnough', WHERE WHAT IT READS IS OF BULK AT MOST 1048576: true; the input reads as it did. -/
def scriptEnoughUptoRow : OpenClaim := { program := "ytfhmphbfngdkeaa", sum := "910db56886943c260e44db77f9bb29eff83215d47cd93ee908eb84ab6bde605f", func := "worksteal/worksteallaw04.ScriptEnough", spec := "scriptEnough", apart := false, narrowed := true }
def ScriptEnoughUptoSaid : Prop := scriptEnoughUptoRow.holds Try.pinned (OpenSpec.upto scriptEnoughSpec)

end Rows
end Go.Proofs.Ytfhmphbfngdkeaa
