/-
  No cell of these rows narrows 'for every input' (looked for: loops, veiled, ifaces, maps, wideKeys, modest, calm, conditions, laid).
  DERIVED. THE GIVEN ROWS OF THIS SEAT. 9 by the template 'for every input the law returns true; each argument reads behind the call as it read before'; 0 by the template 'total and deterministic' (their statements: YtlklfpbimoolbaaGreatTotals.lean).
  GIVEN WITH THE SEED: the statements are not yours to turn. If you find one false, say at which input.
  Laid BY PROGRAM, IN A SANDBOX (cutbox-rows.mjs): the forced cells as the released guide's own fill.sh prints them over the translation 4b21658f539ea531… (all of the seat's roots in one cut). By AI agents, Wed Nov 11 2026. No macro, syntax, notation, axiom, sorry.
-/
import Derived.Test.YtlklfpbimoolbaaGreatChecked
import GoSem.Claim
import GoSem.ClaimJoined
import GoSem.ClaimMapViews
import Derived.JoinedTies
import Derived.KernelRfl
namespace Go.Proofs.YtlklfpbimoolbaaGreat
/- THE CELL 'sum', in the pinned program and in every row, IS THE sha256 OF THE DUMP (.gsa) THAT YtlklfpbimoolbaaGreatProg.lean LOADS. Nothing in Lean hashes anything: it is a label: what it is worth is what the hold of that sum in a sandbox is worth. -/
noncomputable def Tryz.pinned : Pinned := { name := "ytlklfpbimoolbaagreat", sum := "4b21658f539ea53115fb920da9a51c12139f2e91f5d7bf6fbcff087464889e8c", checked := Tryz.checked }
namespace Rows
def none {H : Type} : Left H := { results := [], args := [] }

/-- 'worksteallaw09.OwnerPushes': WHATEVER THE INPUT: true; the input reads as it did. -/
def ownerPushesSpec : ChangeSpec := { name := "ownerPushes", fn := fun _ => fun
  | [d1, d2, d3, d4] => { results := [.lit (.bool true)], args := [d1, d2, d3, d4] }
  | _ => none }
def ownerPushesRow : OpenClaim := { program := "ytlklfpbimoolbaagreat", sum := "4b21658f539ea53115fb920da9a51c12139f2e91f5d7bf6fbcff087464889e8c", func := "worksteal/worksteallaw09.OwnerPushes", spec := "ownerPushes", unfollowed := true, recurses := true, plainKeys := false, apart := false }
def OwnerPushesSaid : Prop := ownerPushesRow.holds Tryz.pinned (OpenSpec.ofChange ownerPushesSpec)

/-- ITS FALSE NEIGHBOUR: 'it returns false'. Refute it at one input. -/
def ownerPushesWrong : ChangeSpec := { name := "ownerPushes", fn := fun _ => fun
  | [d1, d2, d3, d4] => { results := [.lit (.bool false)], args := [d1, d2, d3, d4] }
  | _ => none }
def OwnerPushesWrongFalsely : Prop := ownerPushesRow.holds Tryz.pinned (OpenSpec.ofChange ownerPushesWrong)

/-- 'worksteallaw09.OwnerPops': WHATEVER THE INPUT: true; the input reads as it did. -/
def ownerPopsSpec : ChangeSpec := { name := "ownerPops", fn := fun _ => fun
  | [d1, d2, d3] => { results := [.lit (.bool true)], args := [d1, d2, d3] }
  | _ => none }
def ownerPopsRow : OpenClaim := { program := "ytlklfpbimoolbaagreat", sum := "4b21658f539ea53115fb920da9a51c12139f2e91f5d7bf6fbcff087464889e8c", func := "worksteal/worksteallaw09.OwnerPops", spec := "ownerPops", unfollowed := true, recurses := true, plainKeys := false, apart := false }
def OwnerPopsSaid : Prop := ownerPopsRow.holds Tryz.pinned (OpenSpec.ofChange ownerPopsSpec)

/-- ITS FALSE NEIGHBOUR: 'it returns false'. Refute it at one input. -/
def ownerPopsWrong : ChangeSpec := { name := "ownerPops", fn := fun _ => fun
  | [d1, d2, d3] => { results := [.lit (.bool false)], args := [d1, d2, d3] }
  | _ => none }
def OwnerPopsWrongFalsely : Prop := ownerPopsRow.holds Tryz.pinned (OpenSpec.ofChange ownerPopsWrong)

/-- 'worksteallaw09.OwnerDeques': WHATEVER THE INPUT: true; the input reads as it did. -/
def ownerDequesSpec : ChangeSpec := { name := "ownerDeques", fn := fun _ => fun
  | [d1, d2, d3, d4, d5, d6, d7] => { results := [.lit (.bool true)], args := [d1, d2, d3, d4, d5, d6, d7] }
  | _ => none }
def ownerDequesRow : OpenClaim := { program := "ytlklfpbimoolbaagreat", sum := "4b21658f539ea53115fb920da9a51c12139f2e91f5d7bf6fbcff087464889e8c", func := "worksteal/worksteallaw09.OwnerDeques", spec := "ownerDeques", unfollowed := true, recurses := true, plainKeys := false, apart := false }
def OwnerDequesSaid : Prop := ownerDequesRow.holds Tryz.pinned (OpenSpec.ofChange ownerDequesSpec)

/-- ITS FALSE NEIGHBOUR: 'it returns false'. Refute it at one input. -/
def ownerDequesWrong : ChangeSpec := { name := "ownerDeques", fn := fun _ => fun
  | [d1, d2, d3, d4, d5, d6, d7] => { results := [.lit (.bool false)], args := [d1, d2, d3, d4, d5, d6, d7] }
  | _ => none }
def OwnerDequesWrongFalsely : Prop := ownerDequesRow.holds Tryz.pinned (OpenSpec.ofChange ownerDequesWrong)

/-- 'worksteallaw10.ThiefSteals': WHATEVER THE INPUT: true; the input reads as it did. -/
def thiefStealsSpec : ChangeSpec := { name := "thiefSteals", fn := fun _ => fun
  | [d1, d2, d3] => { results := [.lit (.bool true)], args := [d1, d2, d3] }
  | _ => none }
def thiefStealsRow : OpenClaim := { program := "ytlklfpbimoolbaagreat", sum := "4b21658f539ea53115fb920da9a51c12139f2e91f5d7bf6fbcff087464889e8c", func := "worksteal/worksteallaw10.ThiefSteals", spec := "thiefSteals", unfollowed := true, recurses := true, plainKeys := false, apart := false }
def ThiefStealsSaid : Prop := thiefStealsRow.holds Tryz.pinned (OpenSpec.ofChange thiefStealsSpec)

/-- ITS FALSE NEIGHBOUR: 'it returns false'. Refute it at one input. -/
def thiefStealsWrong : ChangeSpec := { name := "thiefSteals", fn := fun _ => fun
  | [d1, d2, d3] => { results := [.lit (.bool false)], args := [d1, d2, d3] }
  | _ => none }
def ThiefStealsWrongFalsely : Prop := thiefStealsRow.holds Tryz.pinned (OpenSpec.ofChange thiefStealsWrong)

/-- 'worksteallaw10.ThiefDeques': WHATEVER THE INPUT: true; the input reads as it did. -/
def thiefDequesSpec : ChangeSpec := { name := "thiefDeques", fn := fun _ => fun
  | [d1, d2, d3, d4, d5] => { results := [.lit (.bool true)], args := [d1, d2, d3, d4, d5] }
  | _ => none }
def thiefDequesRow : OpenClaim := { program := "ytlklfpbimoolbaagreat", sum := "4b21658f539ea53115fb920da9a51c12139f2e91f5d7bf6fbcff087464889e8c", func := "worksteal/worksteallaw10.ThiefDeques", spec := "thiefDeques", unfollowed := true, recurses := true, plainKeys := false, apart := false }
def ThiefDequesSaid : Prop := thiefDequesRow.holds Tryz.pinned (OpenSpec.ofChange thiefDequesSpec)

/-- ITS FALSE NEIGHBOUR: 'it returns false'. Refute it at one input. -/
def thiefDequesWrong : ChangeSpec := { name := "thiefDeques", fn := fun _ => fun
  | [d1, d2, d3, d4, d5] => { results := [.lit (.bool false)], args := [d1, d2, d3, d4, d5] }
  | _ => none }
def ThiefDequesWrongFalsely : Prop := thiefDequesRow.holds Tryz.pinned (OpenSpec.ofChange thiefDequesWrong)

/-- 'worksteallaw12.BitmapSets': WHATEVER THE INPUT: true; the input reads as it did. -/
def bitmapSetsSpec : ChangeSpec := { name := "bitmapSets", fn := fun _ => fun
  | [d1, d2, d3, d4] => { results := [.lit (.bool true)], args := [d1, d2, d3, d4] }
  | _ => none }
def bitmapSetsRow : OpenClaim := { program := "ytlklfpbimoolbaagreat", sum := "4b21658f539ea53115fb920da9a51c12139f2e91f5d7bf6fbcff087464889e8c", func := "worksteal/worksteallaw12.BitmapSets", spec := "bitmapSets", unfollowed := true, recurses := true, plainKeys := false, apart := false }
def BitmapSetsSaid : Prop := bitmapSetsRow.holds Tryz.pinned (OpenSpec.ofChange bitmapSetsSpec)

/-- ITS FALSE NEIGHBOUR: 'it returns false'. Refute it at one input. -/
def bitmapSetsWrong : ChangeSpec := { name := "bitmapSets", fn := fun _ => fun
  | [d1, d2, d3, d4] => { results := [.lit (.bool false)], args := [d1, d2, d3, d4] }
  | _ => none }
def BitmapSetsWrongFalsely : Prop := bitmapSetsRow.holds Tryz.pinned (OpenSpec.ofChange bitmapSetsWrong)

/-- 'worksteallaw12.BitmapClears': WHATEVER THE INPUT: true; the input reads as it did. -/
def bitmapClearsSpec : ChangeSpec := { name := "bitmapClears", fn := fun _ => fun
  | [d1, d2, d3, d4, d5, d6] => { results := [.lit (.bool true)], args := [d1, d2, d3, d4, d5, d6] }
  | _ => none }
def bitmapClearsRow : OpenClaim := { program := "ytlklfpbimoolbaagreat", sum := "4b21658f539ea53115fb920da9a51c12139f2e91f5d7bf6fbcff087464889e8c", func := "worksteal/worksteallaw12.BitmapClears", spec := "bitmapClears", unfollowed := true, recurses := true, plainKeys := false, apart := false }
def BitmapClearsSaid : Prop := bitmapClearsRow.holds Tryz.pinned (OpenSpec.ofChange bitmapClearsSpec)

/-- ITS FALSE NEIGHBOUR: 'it returns false'. Refute it at one input. -/
def bitmapClearsWrong : ChangeSpec := { name := "bitmapClears", fn := fun _ => fun
  | [d1, d2, d3, d4, d5, d6] => { results := [.lit (.bool false)], args := [d1, d2, d3, d4, d5, d6] }
  | _ => none }
def BitmapClearsWrongFalsely : Prop := bitmapClearsRow.holds Tryz.pinned (OpenSpec.ofChange bitmapClearsWrong)

/-- 'worksteallaw11.HistoryPlays': WHATEVER THE INPUT: true; the input reads as it did. -/
def historyPlaysSpec : ChangeSpec := { name := "historyPlays", fn := fun _ => fun
  | [d1, d2, d3, d4, d5] => { results := [.lit (.bool true)], args := [d1, d2, d3, d4, d5] }
  | _ => none }
def historyPlaysRow : OpenClaim := { program := "ytlklfpbimoolbaagreat", sum := "4b21658f539ea53115fb920da9a51c12139f2e91f5d7bf6fbcff087464889e8c", func := "worksteal/worksteallaw11.HistoryPlays", spec := "historyPlays", unfollowed := true, recurses := true, plainKeys := false, apart := false }
def HistoryPlaysSaid : Prop := historyPlaysRow.holds Tryz.pinned (OpenSpec.ofChange historyPlaysSpec)

/-- ITS FALSE NEIGHBOUR: 'it returns false'. Refute it at one input. -/
def historyPlaysWrong : ChangeSpec := { name := "historyPlays", fn := fun _ => fun
  | [d1, d2, d3, d4, d5] => { results := [.lit (.bool false)], args := [d1, d2, d3, d4, d5] }
  | _ => none }
def HistoryPlaysWrongFalsely : Prop := historyPlaysRow.holds Tryz.pinned (OpenSpec.ofChange historyPlaysWrong)

/-- 'worksteallaw11.HistoryLinear': WHATEVER THE INPUT: true; the input reads as it did. -/
def historyLinearSpec : ChangeSpec := { name := "historyLinear", fn := fun _ => fun
  | [d1, d2, d3, d4, d5, d6] => { results := [.lit (.bool true)], args := [d1, d2, d3, d4, d5, d6] }
  | _ => none }
def historyLinearRow : OpenClaim := { program := "ytlklfpbimoolbaagreat", sum := "4b21658f539ea53115fb920da9a51c12139f2e91f5d7bf6fbcff087464889e8c", func := "worksteal/worksteallaw11.HistoryLinear", spec := "historyLinear", unfollowed := true, recurses := true, plainKeys := false, apart := false }
def HistoryLinearSaid : Prop := historyLinearRow.holds Tryz.pinned (OpenSpec.ofChange historyLinearSpec)

/-- ITS FALSE NEIGHBOUR: 'it returns false'. Refute it at one input. -/
def historyLinearWrong : ChangeSpec := { name := "historyLinear", fn := fun _ => fun
  | [d1, d2, d3, d4, d5, d6] => { results := [.lit (.bool false)], args := [d1, d2, d3, d4, d5, d6] }
  | _ => none }
def HistoryLinearWrongFalsely : Prop := historyLinearRow.holds Tryz.pinned (OpenSpec.ofChange historyLinearWrong)

/- THE SECOND FORM. 'bulk': how many values and letters a reading holds, each counted each time it is reached (what is shared counts as often as it is met; a slice's spare places count too). A statement '..UptoSaid' is the law's where the arguments, and the package variables that the reading takes, are together of bulk at most 1048576: NARROWER than '..Said'. Prove '..Said' where nothing that the law and all that it calls make is longer than what came in: it says more and counts as full. Else prove '..UptoSaid'. A law counts once. -/
mutual
def uptoBulk {H : Type} : DataW H → Nat
  | .lit (.string bytes) => bytes.length + 1
  | .lit _ => 1
  | .nil => 1
  | .ptr d => uptoBulk d + 1
  | .slice elems spare => uptoBulkAll elems + uptoBulkAll spare + 1
  | .agg parts => uptoBulkAll parts + 1
  | .iface _ d => uptoBulk d + 1
  | .map entries => uptoBulkEntries entries + 1
  | .held _ => 1
def uptoBulkAll {H : Type} : List (DataW H) → Nat
  | [] => 0
  | d :: r => uptoBulk d + uptoBulkAll r
def uptoBulkEntries {H : Type} : List (Lit × DataW H) → Nat
  | [] => 0
  | x :: r => uptoBulkEntry x + uptoBulkEntries r
def uptoBulkEntry {H : Type} : Lit × DataW H → Nat
  | (.string bytes, d) => bytes.length + uptoBulk d + 1
  | (_, d) => uptoBulk d + 1
 end
def uptoSmall : (H : Type) → List (DataW H) → Bool := fun _ ds => decide (uptoBulkAll ds ≤ 1048576)
def OpenSpec.upto (s : _root_.Go.ChangeSpec) : _root_.Go.OpenSpec := { _root_.Go.OpenSpec.ofChange s with cond := some uptoSmall }

/-- 'worksteallaw09.OwnerPushes', WHERE WHAT IT READS IS OF BULK AT MOST 1048576: true; the input reads as it did. -/
def ownerPushesUptoRow : OpenClaim := { program := "ytlklfpbimoolbaagreat", sum := "4b21658f539ea53115fb920da9a51c12139f2e91f5d7bf6fbcff087464889e8c", func := "worksteal/worksteallaw09.OwnerPushes", spec := "ownerPushes", unfollowed := true, recurses := true, plainKeys := false, apart := false, narrowed := true }
def OwnerPushesUptoSaid : Prop := ownerPushesUptoRow.holds Tryz.pinned (OpenSpec.upto ownerPushesSpec)

/-- 'worksteallaw09.OwnerPops', WHERE WHAT IT READS IS OF BULK AT MOST 1048576: true; the input reads as it did. -/
def ownerPopsUptoRow : OpenClaim := { program := "ytlklfpbimoolbaagreat", sum := "4b21658f539ea53115fb920da9a51c12139f2e91f5d7bf6fbcff087464889e8c", func := "worksteal/worksteallaw09.OwnerPops", spec := "ownerPops", unfollowed := true, recurses := true, plainKeys := false, apart := false, narrowed := true }
def OwnerPopsUptoSaid : Prop := ownerPopsUptoRow.holds Tryz.pinned (OpenSpec.upto ownerPopsSpec)

/-- 'worksteallaw09.OwnerDeques', WHERE WHAT IT READS IS OF BULK AT MOST 1048576: true; the input reads as it did. -/
def ownerDequesUptoRow : OpenClaim := { program := "ytlklfpbimoolbaagreat", sum := "4b21658f539ea53115fb920da9a51c12139f2e91f5d7bf6fbcff087464889e8c", func := "worksteal/worksteallaw09.OwnerDeques", spec := "ownerDeques", unfollowed := true, recurses := true, plainKeys := false, apart := false, narrowed := true }
def OwnerDequesUptoSaid : Prop := ownerDequesUptoRow.holds Tryz.pinned (OpenSpec.upto ownerDequesSpec)

/-- 'worksteallaw10.ThiefSteals', WHERE WHAT IT READS IS OF BULK AT MOST 1048576: true; the input reads as it did. -/
def thiefStealsUptoRow : OpenClaim := { program := "ytlklfpbimoolbaagreat", sum := "4b21658f539ea53115fb920da9a51c12139f2e91f5d7bf6fbcff087464889e8c", func := "worksteal/worksteallaw10.ThiefSteals", spec := "thiefSteals", unfollowed := true, recurses := true, plainKeys := false, apart := false, narrowed := true }
def ThiefStealsUptoSaid : Prop := thiefStealsUptoRow.holds Tryz.pinned (OpenSpec.upto thiefStealsSpec)

/-- 'worksteallaw10.ThiefDeques', WHERE WHAT IT READS IS OF BULK AT MOST 1048576: true; the input reads as it did. -/
def thiefDequesUptoRow : OpenClaim := { program := "ytlklfpbimoolbaagreat", sum := "4b21658f539ea53115fb920da9a51c12139f2e91f5d7bf6fbcff087464889e8c", func := "worksteal/worksteallaw10.ThiefDeques", spec := "thiefDeques", unfollowed := true, recurses := true, plainKeys := false, apart := false, narrowed := true }
def ThiefDequesUptoSaid : Prop := thiefDequesUptoRow.holds Tryz.pinned (OpenSpec.upto thiefDequesSpec)

/-- 'worksteallaw12.BitmapSets', WHERE WHAT IT READS IS OF BULK AT MOST 1048576: true; the input reads as it did. -/
def bitmapSetsUptoRow : OpenClaim := { program := "ytlklfpbimoolbaagreat", sum := "4b21658f539ea53115fb920da9a51c12139f2e91f5d7bf6fbcff087464889e8c", func := "worksteal/worksteallaw12.BitmapSets", spec := "bitmapSets", unfollowed := true, recurses := true, plainKeys := false, apart := false, narrowed := true }
def BitmapSetsUptoSaid : Prop := bitmapSetsUptoRow.holds Tryz.pinned (OpenSpec.upto bitmapSetsSpec)

/-- 'worksteallaw12.BitmapClears', WHERE WHAT IT READS IS OF BULK AT MOST 1048576: true; the input reads as it did. -/
def bitmapClearsUptoRow : OpenClaim := { program := "ytlklfpbimoolbaagreat", sum := "4b21658f539ea53115fb920da9a51c12139f2e91f5d7bf6fbcff087464889e8c", func := "worksteal/worksteallaw12.BitmapClears", spec := "bitmapClears", unfollowed := true, recurses := true, plainKeys := false, apart := false, narrowed := true }
def BitmapClearsUptoSaid : Prop := bitmapClearsUptoRow.holds Tryz.pinned (OpenSpec.upto bitmapClearsSpec)

/-- 'worksteallaw11.HistoryPlays', WHERE WHAT IT READS IS OF BULK AT MOST 1048576: true; the input reads as it did. -/
def historyPlaysUptoRow : OpenClaim := { program := "ytlklfpbimoolbaagreat", sum := "4b21658f539ea53115fb920da9a51c12139f2e91f5d7bf6fbcff087464889e8c", func := "worksteal/worksteallaw11.HistoryPlays", spec := "historyPlays", unfollowed := true, recurses := true, plainKeys := false, apart := false, narrowed := true }
def HistoryPlaysUptoSaid : Prop := historyPlaysUptoRow.holds Tryz.pinned (OpenSpec.upto historyPlaysSpec)

/-- 'worksteallaw11.HistoryLinear', WHERE WHAT IT READS IS OF BULK AT MOST 1048576: true; the input reads as it did. -/
def historyLinearUptoRow : OpenClaim := { program := "ytlklfpbimoolbaagreat", sum := "4b21658f539ea53115fb920da9a51c12139f2e91f5d7bf6fbcff087464889e8c", func := "worksteal/worksteallaw11.HistoryLinear", spec := "historyLinear", unfollowed := true, recurses := true, plainKeys := false, apart := false, narrowed := true }
def HistoryLinearUptoSaid : Prop := historyLinearUptoRow.holds Tryz.pinned (OpenSpec.upto historyLinearSpec)

end Rows
end Go.Proofs.YtlklfpbimoolbaaGreat
