/-
  No cell of these rows narrows 'for every input' (looked for: loops, veiled, ifaces, maps, wideKeys, modest, calm, conditions, laid).
  DERIVED. THE GIVEN ROWS OF THIS SEAT. 9 by the template 'for every input the law returns true; each argument reads behind the call as it read before'; 0 by the template 'total and deterministic' (their statements: YtiijgnnejdcedaaTotals.lean).
  GIVEN WITH THE SEED: the statements are not yours to turn. If you find one false, say at which input.
  Laid BY PROGRAM, IN A SANDBOX (cutbox-rows.mjs): the forced cells as the released guide's own fill.sh prints them over the translation 5ecdb741647dfa3c… (all of the seat's roots in one cut). By AI agents, Wed Nov 11 2026. No macro, syntax, notation, axiom, sorry.
-/
import Derived.Test.YtiijgnnejdcedaaChecked
import GoSem.Claim
import GoSem.ClaimJoined
import GoSem.ClaimMapViews
import Derived.JoinedTies
import Derived.KernelRfl
namespace Go.Proofs.Ytiijgnnejdcedaa
/- THE CELL 'sum', in the pinned program and in every row, IS THE sha256 OF THE DUMP (.gsa) THAT YtiijgnnejdcedaaProg.lean LOADS. Nothing in Lean hashes anything: it is a label: what it is worth is what the hold of that sum in a sandbox is worth. -/
noncomputable def Try.pinned : Pinned := { name := "ytiijgnnejdcedaa", sum := "5ecdb741647dfa3c0469d1c6554db928f831d6aef78d8f0a364665dfd2c77281", checked := Try.checked }
namespace Rows
def none {H : Type} : Left H := { results := [], args := [] }

/-- 'worksteallaw03.ClockPlays': WHATEVER THE INPUT: true; the input reads as it did. -/
def clockPlaysSpec : ChangeSpec := { name := "clockPlays", fn := fun _ => fun
  | [d1, d2] => { results := [.lit (.bool true)], args := [d1, d2] }
  | _ => none }
def clockPlaysRow : OpenClaim := { program := "ytiijgnnejdcedaa", sum := "5ecdb741647dfa3c0469d1c6554db928f831d6aef78d8f0a364665dfd2c77281", func := "worksteal/worksteallaw03.ClockPlays", spec := "clockPlays", apart := false }
def ClockPlaysSaid : Prop := clockPlaysRow.holds Try.pinned (OpenSpec.ofChange clockPlaysSpec)

/-- ITS FALSE NEIGHBOUR: 'it returns false'. Refute it at one input. -/
def clockPlaysWrong : ChangeSpec := { name := "clockPlays", fn := fun _ => fun
  | [d1, d2] => { results := [.lit (.bool false)], args := [d1, d2] }
  | _ => none }
def ClockPlaysWrongFalsely : Prop := clockPlaysRow.holds Try.pinned (OpenSpec.ofChange clockPlaysWrong)

/-- 'worksteallaw03.ClockDraws': WHATEVER THE INPUT: true; the input reads as it did. -/
def clockDrawsSpec : ChangeSpec := { name := "clockDraws", fn := fun _ => fun
  | [d1, d2, d3] => { results := [.lit (.bool true)], args := [d1, d2, d3] }
  | _ => none }
def clockDrawsRow : OpenClaim := { program := "ytiijgnnejdcedaa", sum := "5ecdb741647dfa3c0469d1c6554db928f831d6aef78d8f0a364665dfd2c77281", func := "worksteal/worksteallaw03.ClockDraws", spec := "clockDraws", apart := false }
def ClockDrawsSaid : Prop := clockDrawsRow.holds Try.pinned (OpenSpec.ofChange clockDrawsSpec)

/-- ITS FALSE NEIGHBOUR: 'it returns false'. Refute it at one input. -/
def clockDrawsWrong : ChangeSpec := { name := "clockDraws", fn := fun _ => fun
  | [d1, d2, d3] => { results := [.lit (.bool false)], args := [d1, d2, d3] }
  | _ => none }
def ClockDrawsWrongFalsely : Prop := clockDrawsRow.holds Try.pinned (OpenSpec.ofChange clockDrawsWrong)

/-- 'worksteallaw03.ClockCopies': WHATEVER THE INPUT: true; the input reads as it did. -/
def clockCopiesSpec : ChangeSpec := { name := "clockCopies", fn := fun _ => fun
  | [d1, d2, d3] => { results := [.lit (.bool true)], args := [d1, d2, d3] }
  | _ => none }
def clockCopiesRow : OpenClaim := { program := "ytiijgnnejdcedaa", sum := "5ecdb741647dfa3c0469d1c6554db928f831d6aef78d8f0a364665dfd2c77281", func := "worksteal/worksteallaw03.ClockCopies", spec := "clockCopies", apart := false }
def ClockCopiesSaid : Prop := clockCopiesRow.holds Try.pinned (OpenSpec.ofChange clockCopiesSpec)

/-- ITS FALSE NEIGHBOUR: 'it returns false'. Refute it at one input. -/
def clockCopiesWrong : ChangeSpec := { name := "clockCopies", fn := fun _ => fun
  | [d1, d2, d3] => { results := [.lit (.bool false)], args := [d1, d2, d3] }
  | _ => none }
def ClockCopiesWrongFalsely : Prop := clockCopiesRow.holds Try.pinned (OpenSpec.ofChange clockCopiesWrong)

/-- 'worksteallaw02.MemorySums': WHATEVER THE INPUT: true; the input reads as it did. -/
def memorySumsSpec : ChangeSpec := { name := "memorySums", fn := fun _ => fun
  | [d] => { results := [.lit (.bool true)], args := [d] }
  | _ => none }
def memorySumsRow : OpenClaim := { program := "ytiijgnnejdcedaa", sum := "5ecdb741647dfa3c0469d1c6554db928f831d6aef78d8f0a364665dfd2c77281", func := "worksteal/worksteallaw02.MemorySums", spec := "memorySums", unfollowed := true, recurses := true, apart := false }
def MemorySumsSaid : Prop := memorySumsRow.holds Try.pinned (OpenSpec.ofChange memorySumsSpec)

/-- ITS FALSE NEIGHBOUR: 'it returns false'. Refute it at one input. -/
def memorySumsWrong : ChangeSpec := { name := "memorySums", fn := fun _ => fun
  | [d] => { results := [.lit (.bool false)], args := [d] }
  | _ => none }
def MemorySumsWrongFalsely : Prop := memorySumsRow.holds Try.pinned (OpenSpec.ofChange memorySumsWrong)

/-- 'worksteallaw02.MemoryOnce': WHATEVER THE INPUT: true; the input reads as it did. -/
def memoryOnceSpec : ChangeSpec := { name := "memoryOnce", fn := fun _ => fun
  | [d1, d2] => { results := [.lit (.bool true)], args := [d1, d2] }
  | _ => none }
def memoryOnceRow : OpenClaim := { program := "ytiijgnnejdcedaa", sum := "5ecdb741647dfa3c0469d1c6554db928f831d6aef78d8f0a364665dfd2c77281", func := "worksteal/worksteallaw02.MemoryOnce", spec := "memoryOnce", unfollowed := true, recurses := true, apart := false }
def MemoryOnceSaid : Prop := memoryOnceRow.holds Try.pinned (OpenSpec.ofChange memoryOnceSpec)

/-- ITS FALSE NEIGHBOUR: 'it returns false'. Refute it at one input. -/
def memoryOnceWrong : ChangeSpec := { name := "memoryOnce", fn := fun _ => fun
  | [d1, d2] => { results := [.lit (.bool false)], args := [d1, d2] }
  | _ => none }
def MemoryOnceWrongFalsely : Prop := memoryOnceRow.holds Try.pinned (OpenSpec.ofChange memoryOnceWrong)

/-- 'worksteallaw02.MemorySizes': WHATEVER THE INPUT: true; the input reads as it did. -/
def memorySizesSpec : ChangeSpec := { name := "memorySizes", fn := fun _ => fun
  | [d] => { results := [.lit (.bool true)], args := [d] }
  | _ => none }
def memorySizesRow : OpenClaim := { program := "ytiijgnnejdcedaa", sum := "5ecdb741647dfa3c0469d1c6554db928f831d6aef78d8f0a364665dfd2c77281", func := "worksteal/worksteallaw02.MemorySizes", spec := "memorySizes", unfollowed := true, recurses := true, apart := false }
def MemorySizesSaid : Prop := memorySizesRow.holds Try.pinned (OpenSpec.ofChange memorySizesSpec)

/-- ITS FALSE NEIGHBOUR: 'it returns false'. Refute it at one input. -/
def memorySizesWrong : ChangeSpec := { name := "memorySizes", fn := fun _ => fun
  | [d] => { results := [.lit (.bool false)], args := [d] }
  | _ => none }
def MemorySizesWrongFalsely : Prop := memorySizesRow.holds Try.pinned (OpenSpec.ofChange memorySizesWrong)

/-- 'worksteallaw02.MemoryBits': WHATEVER THE INPUT: true; the input reads as it did. -/
def memoryBitsSpec : ChangeSpec := { name := "memoryBits", fn := fun _ => fun
  | [d1, d2] => { results := [.lit (.bool true)], args := [d1, d2] }
  | _ => none }
def memoryBitsRow : OpenClaim := { program := "ytiijgnnejdcedaa", sum := "5ecdb741647dfa3c0469d1c6554db928f831d6aef78d8f0a364665dfd2c77281", func := "worksteal/worksteallaw02.MemoryBits", spec := "memoryBits", unfollowed := true, recurses := true, apart := false }
def MemoryBitsSaid : Prop := memoryBitsRow.holds Try.pinned (OpenSpec.ofChange memoryBitsSpec)

/-- ITS FALSE NEIGHBOUR: 'it returns false'. Refute it at one input. -/
def memoryBitsWrong : ChangeSpec := { name := "memoryBits", fn := fun _ => fun
  | [d1, d2] => { results := [.lit (.bool false)], args := [d1, d2] }
  | _ => none }
def MemoryBitsWrongFalsely : Prop := memoryBitsRow.holds Try.pinned (OpenSpec.ofChange memoryBitsWrong)

/-- 'worksteallaw02.MemoryPlays': WHATEVER THE INPUT: true; the input reads as it did. -/
def memoryPlaysSpec : ChangeSpec := { name := "memoryPlays", fn := fun _ => fun
  | [d1, d2] => { results := [.lit (.bool true)], args := [d1, d2] }
  | _ => none }
def memoryPlaysRow : OpenClaim := { program := "ytiijgnnejdcedaa", sum := "5ecdb741647dfa3c0469d1c6554db928f831d6aef78d8f0a364665dfd2c77281", func := "worksteal/worksteallaw02.MemoryPlays", spec := "memoryPlays", unfollowed := true, recurses := true, apart := false }
def MemoryPlaysSaid : Prop := memoryPlaysRow.holds Try.pinned (OpenSpec.ofChange memoryPlaysSpec)

/-- ITS FALSE NEIGHBOUR: 'it returns false'. Refute it at one input. -/
def memoryPlaysWrong : ChangeSpec := { name := "memoryPlays", fn := fun _ => fun
  | [d1, d2] => { results := [.lit (.bool false)], args := [d1, d2] }
  | _ => none }
def MemoryPlaysWrongFalsely : Prop := memoryPlaysRow.holds Try.pinned (OpenSpec.ofChange memoryPlaysWrong)

/-- 'worksteallaw02.MemoryCopies': WHATEVER THE INPUT: true; the input reads as it did. -/
def memoryCopiesSpec : ChangeSpec := { name := "memoryCopies", fn := fun _ => fun
  | [d1, d2, d3] => { results := [.lit (.bool true)], args := [d1, d2, d3] }
  | _ => none }
def memoryCopiesRow : OpenClaim := { program := "ytiijgnnejdcedaa", sum := "5ecdb741647dfa3c0469d1c6554db928f831d6aef78d8f0a364665dfd2c77281", func := "worksteal/worksteallaw02.MemoryCopies", spec := "memoryCopies", unfollowed := true, recurses := true, apart := false }
def MemoryCopiesSaid : Prop := memoryCopiesRow.holds Try.pinned (OpenSpec.ofChange memoryCopiesSpec)

/-- ITS FALSE NEIGHBOUR: 'it returns false'. Refute it at one input. -/
def memoryCopiesWrong : ChangeSpec := { name := "memoryCopies", fn := fun _ => fun
  | [d1, d2, d3] => { results := [.lit (.bool false)], args := [d1, d2, d3] }
  | _ => none }
def MemoryCopiesWrongFalsely : Prop := memoryCopiesRow.holds Try.pinned (OpenSpec.ofChange memoryCopiesWrong)

/- THE SECOND FORM. 'bulk': how many values and letters a reading holds, each counted each time it is reached (what is shared counts as often as it is met; a slice's spare places count too). A statement '..UptoSaid' is the law's where the arguments, and the package variables that the reading takes, are together of bulk at most 1048576: NARROWER than '..Said'. Prove '..Said' where nothing that the law and all that it calls make is longer than what came in: it says more and counts as full. Else prove '..UptoSaid'. A law counts once. -/
mutual
def uptoBulk {H : Type} : DataW H → Nat
  | .lit (.string bytes) => bytes.length + 1
  | .lit _ => 1
  | .nil => 1
  | .ptr d => uptoBulk d + 1
  | .slice elems spare => uptoBulkAll elems + uptoBulkAll spare + 1
  | .agg parts => uptoBulkAll parts + 1
  | .iface _ d => uptoBulk d + 1
  | .map entries => uptoBulkEntries entries + 1
  | .held _ => 1
def uptoBulkAll {H : Type} : List (DataW H) → Nat
  | [] => 0
  | d :: r => uptoBulk d + uptoBulkAll r
def uptoBulkEntries {H : Type} : List (Lit × DataW H) → Nat
  | [] => 0
  | x :: r => uptoBulkEntry x + uptoBulkEntries r
def uptoBulkEntry {H : Type} : Lit × DataW H → Nat
  | (.string bytes, d) => bytes.length + uptoBulk d + 1
  | (_, d) => uptoBulk d + 1
 end
def uptoSmall : (H : Type) → List (DataW H) → Bool := fun _ ds => decide (uptoBulkAll ds ≤ 1048576)
def OpenSpec.upto (s : _root_.Go.ChangeSpec) : _root_.Go.OpenSpec := { _root_.Go.OpenSpec.ofChange s with cond := some uptoSmall }

/-- 'worksteallaw03.ClockPlays', WHERE WHAT IT READS IS OF BULK AT MOST 1048576: true; the input reads as it did. -/
def clockPlaysUptoRow : OpenClaim := { program := "ytiijgnnejdcedaa", sum := "5ecdb741647dfa3c0469d1c6554db928f831d6aef78d8f0a364665dfd2c77281", func := "worksteal/worksteallaw03.ClockPlays", spec := "clockPlays", apart := false, narrowed := true }
def ClockPlaysUptoSaid : Prop := clockPlaysUptoRow.holds Try.pinned (OpenSpec.upto clockPlaysSpec)

/-- 'worksteallaw03.ClockDraws', WHERE WHAT IT READS IS OF BULK AT MOST 1048576: true; the input reads as it did. -/
def clockDrawsUptoRow : OpenClaim := { program := "ytiijgnnejdcedaa", sum := "5ecdb741647dfa3c0469d1c6554db928f831d6aef78d8f0a364665dfd2c77281", func := "worksteal/worksteallaw03.ClockDraws", spec := "clockDraws", apart := false, narrowed := true }
def ClockDrawsUptoSaid : Prop := clockDrawsUptoRow.holds Try.pinned (OpenSpec.upto clockDrawsSpec)

/-- 'worksteallaw03.ClockCopies', WHERE WHAT IT READS IS OF BULK AT MOST 1048576: true; the input reads as it did. -/
def clockCopiesUptoRow : OpenClaim := { program := "ytiijgnnejdcedaa", sum := "5ecdb741647dfa3c0469d1c6554db928f831d6aef78d8f0a364665dfd2c77281", func := "worksteal/worksteallaw03.ClockCopies", spec := "clockCopies", apart := false, narrowed := true }
def ClockCopiesUptoSaid : Prop := clockCopiesUptoRow.holds Try.pinned (OpenSpec.upto clockCopiesSpec)

/-- 'worksteallaw02.MemorySums', WHERE WHAT IT READS IS OF BULK AT MOST 1048576: true; the input reads as it did. -/
def memorySumsUptoRow : OpenClaim := { program := "ytiijgnnejdcedaa", sum := "5ecdb741647dfa3c0469d1c6554db928f831d6aef78d8f0a364665dfd2c77281", func := "worksteal/worksteallaw02.MemorySums", spec := "memorySums", unfollowed := true, recurses := true, apart := false, narrowed := true }
def MemorySumsUptoSaid : Prop := memorySumsUptoRow.holds Try.pinned (OpenSpec.upto memorySumsSpec)

/-- 'worksteallaw02.MemoryOnce', WHERE WHAT IT READS IS OF BULK AT MOST 1048576: true; the input reads as it did. -/
def memoryOnceUptoRow : OpenClaim := { program := "ytiijgnnejdcedaa", sum := "5ecdb741647dfa3c0469d1c6554db928f831d6aef78d8f0a364665dfd2c77281", func := "worksteal/worksteallaw02.MemoryOnce", spec := "memoryOnce", unfollowed := true, recurses := true, apart := false, narrowed := true }
def MemoryOnceUptoSaid : Prop := memoryOnceUptoRow.holds Try.pinned (OpenSpec.upto memoryOnceSpec)

/-- 'worksteallaw02.MemorySizes', WHERE WHAT IT READS IS OF BULK AT MOST 1048576: true; the input reads as it did. -/
def memorySizesUptoRow : OpenClaim := { program := "ytiijgnnejdcedaa", sum := "5ecdb741647dfa3c0469d1c6554db928f831d6aef78d8f0a364665dfd2c77281", func := "worksteal/worksteallaw02.MemorySizes", spec := "memorySizes", unfollowed := true, recurses := true, apart := false, narrowed := true }
def MemorySizesUptoSaid : Prop := memorySizesUptoRow.holds Try.pinned (OpenSpec.upto memorySizesSpec)

/-- 'worksteallaw02.MemoryBits', WHERE WHAT IT READS IS OF BULK AT MOST 1048576: true; the input reads as it did. -/
def memoryBitsUptoRow : OpenClaim := { program := "ytiijgnnejdcedaa", sum := "5ecdb741647dfa3c0469d1c6554db928f831d6aef78d8f0a364665dfd2c77281", func := "worksteal/worksteallaw02.MemoryBits", spec := "memoryBits", unfollowed := true, recurses := true, apart := false, narrowed := true }
def MemoryBitsUptoSaid : Prop := memoryBitsUptoRow.holds Try.pinned (OpenSpec.upto memoryBitsSpec)

/-- 'worksteallaw02.MemoryPlays', WHERE WHAT IT READS IS OF BULK AT MOST 1048576: true; the input reads as it did. -/
def memoryPlaysUptoRow : OpenClaim := { program := "ytiijgnnejdcedaa", sum := "5ecdb741647dfa3c0469d1c6554db928f831d6aef78d8f0a364665dfd2c77281", func := "worksteal/worksteallaw02.MemoryPlays", spec := "memoryPlays", unfollowed := true, recurses := true, apart := false, narrowed := true }
def MemoryPlaysUptoSaid : Prop := memoryPlaysUptoRow.holds Try.pinned (OpenSpec.upto memoryPlaysSpec)

/-- 'worksteallaw02.MemoryCopies', WHERE WHAT IT READS IS OF BULK AT MOST 1048576: true; the input reads as it did. -/
def memoryCopiesUptoRow : OpenClaim := { program := "ytiijgnnejdcedaa", sum := "5ecdb741647dfa3c0469d1c6554db928f831d6aef78d8f0a364665dfd2c77281", func := "worksteal/worksteallaw02.MemoryCopies", spec := "memoryCopies", unfollowed := true, recurses := true, apart := false, narrowed := true }
def MemoryCopiesUptoSaid : Prop := memoryCopiesUptoRow.holds Try.pinned (OpenSpec.upto memoryCopiesSpec)

end Rows
end Go.Proofs.Ytiijgnnejdcedaa
